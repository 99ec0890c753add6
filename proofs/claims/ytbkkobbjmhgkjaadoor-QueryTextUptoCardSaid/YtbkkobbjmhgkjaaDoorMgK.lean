/- Objects whose maps hold rows of their own (rows that are turned in place). -/
import Derived.Test.YtbkkobbjmhgkjaaDoorMgJ
namespace Go.Mg
open Go
set_option linter.unusedVariables false

/-- The block of a row, as a list. -/
def bl (v : Value) : List Nat := match v.ownBlock with
  | some b => [b]
  | none => []
theorem mem_bl {v : Value} {b : Nat} : b ∈ bl v ↔ Blk v b := by
  unfold bl Blk
  cases v.ownBlock with
  | none => simp
  | some x => simp [eq_comm]
theorem bl_nodup (v : Value) : (bl v).Nodup := by unfold bl; cases v.ownBlock <;> simp

/-- The blocks of all rows. -/
def rows {κ : Type} (L : List (κ × Value × Nat)) : List Nat := L.flatMap fun x => bl x.2.1

/-- A map whose elements are rows of its own. -/
def fMapO {κ β : Type} [DecidableEq κ] {P : Program} {t : TypeId} (ky : Ky P t κ) (k : Kd β) (e : TypeId) : Fk (List (κ × List β)) where
  rep S w c m fp := ∃ b L cl, c = .map (some b) ∧ fp = b :: rows L ∧ ¬ S b ∧ Mp ky w b L cl ∧ MR (fun v xs => Ow k e S 0 w v xs) L m
  one h := by obtain ⟨b, L, cl, rfl, _⟩ := h; rfl
  lt h := by
    obtain ⟨b, L, cl, rfl, rfl, hS, hM, hR⟩ := h
    intro x hx
    rcases List.mem_cons.1 hx with rfl | hx
    · exact ⟨hM.lt, hS⟩
    · clear hM
      induction hR with
      | nil => cases hx
      | @cons a v n y L m h1 _ ih =>
        unfold rows at hx ih
        rw [List.flatMap_cons] at hx
        rcases List.mem_append.1 hx with hx | hx
        · exact ⟨(h1.lt x (mem_bl.1 hx)).2, h1.not x (mem_bl.1 hx)⟩
        · exact ih (by simp [hx]) hx
  mono := fun {S S' w w' c x fp} h hS hS2 hw hf hs => by
    obtain ⟨b, L, cl, rfl, rfl, hn, hM, hR⟩ := h
    have hS3 : ∀ x ∈ rows L, ¬ S' x := fun x hx => hS2 x (by simp [hx])
    refine ⟨b, L, cl, rfl, rfl, hS2 b (by simp), hM.to (hf b (by simp)), ?_⟩
    · have hf' : ∀ x ∈ rows L, w'.heap[x]? = w.heap[x]? := fun x hx => hf x (by simp [hx])
      clear hM hf hS2
      induction hR with
      | nil => exact .nil
      | @cons a v n y L m h1 _ ih =>
        have hcons : ∀ x, x ∈ rows L → x ∈ rows ((a, v, n) :: L) := fun x hx => by unfold rows at hx ⊢; rw [List.flatMap_cons]; simp [hx]
        refine .cons ?_ (ih (fun x hx => hS3 x (hcons x hx)) fun x hx => hf' x (hcons x hx))
        obtain ⟨cs, g1, g2, g3, g4⟩ := h1
        refine ⟨cs, ⟨g1.1, ?_⟩, g2.to hS hw, g3, fun b hb => hS3 b (by unfold rows; rw [List.flatMap_cons]; exact List.mem_append.2 (.inl (mem_bl.2 hb)))⟩
        · rcases g1.2 with hn | ⟨g, cap, cur, rfl, hb, hg, rest⟩
          · exact .inl hn
          · refine .inr ⟨g, cap, cur, rfl, hb, ?_, rest⟩
            rw [hf' g (by unfold rows; rw [List.flatMap_cons]; simp [bl, Value.ownBlock])]
            exact hg

/-- A field turns, by its own blocks and new ones. -/
theorem Ob.turnN {e : TypeId} {l : List ((α : Type) × Fk α × α)} {S : Nat → Prop} {w : World} {v : Value} {cs : List Value} {fp : List Nat} (h : Ob e l S w v cs fp) {i : Nat} {α : Type} {k : Fk α} {x : α} (hi : l[i]? = some ⟨α, k, x⟩) {c : Value} (hc : cs[i]? = some c) :
    ∃ fi, k.rep S w c x fi ∧ (∀ b ∈ fi, b ∈ fp) ∧ fi.Nodup ∧ pb v ∉ fi ∧ ∀ {w' : World} {x' : α} {fi' : List Nat}, k.rep S w' c x' fi' → Up (fun b => b ∈ fi) w w' → fi'.Nodup → (∀ b ∈ fi', b ∈ fi ∨ b ∉ fp) →
      ∃ fp', Ob e (l.set i ⟨α, k, x'⟩) S w' v cs fp' ∧ ∀ b ∈ fp', b ∈ fp ∨ b ∈ fi' := by
  have hlt := h.lt
  obtain ⟨b, fq, rfl, rfl, hn, hb, hk, hf⟩ := h
  obtain ⟨c', fa, fi, fb, e1, e2, e3, e4⟩ := hf.at hi
  rw [hc] at e1
  cases e1
  have hn1 := (List.nodup_cons.1 hn).1
  have hn2 := (List.nodup_cons.1 hn).2
  rw [e2, List.append_assoc, List.nodup_append] at hn2
  obtain ⟨na, nib, nd⟩ := hn2
  rw [List.nodup_append] at nib
  refine ⟨fi, e3, fun x hx => by rw [e2]; simp [hx], nib.1, fun hx => hn1 (by rw [e2]; simp [show b ∈ fi from hx]), fun {w' x' fi'} h' hu hnd hsub => ?_⟩
  have hbn : b ∉ fi := fun hx => hn1 (by rw [e2]; simp [hx])
  have hab : ∀ x ∈ fa ++ fb, x ∉ fi := fun x hx hxi => by
    rcases List.mem_append.1 hx with hx | hx
    · exact nd x hx x (by simp [hxi]) rfl
    · exact nib.2.2 x hxi x hx rfl
  have hin : ∀ x ∈ fa ++ fb, x ∈ b :: fq := fun x hx => by rw [e2]; simp at hx ⊢; rcases hx with hx | hx <;> simp [hx]
  have hsm : Sm S w w' := hu.sm fun x hx _ hxi => by
    have : x ∈ b :: fq := by rw [e2]; simp [hxi]
    exact (hlt x this).2 hx
  have := e4 h' (fun _ h => h) (fun x hx => (hlt x (hin x hx)).2) hsm (fun x hx => hu.block x (hlt x (hin x hx)).1 (hab x hx)) hu.size
  have hcs : cs.set i c = cs := by
    apply List.ext_getElem?
    intro j
    rw [List.getElem?_set]
    split
    · rename_i hij; subst hij; rw [if_pos (List.getElem?_eq_some_iff.1 hc).1, hc]
    · rfl
  rw [hcs] at this
  have old : ∀ x ∈ fi', ∀ y ∈ b :: (fa ++ fb), x ≠ y := fun x hx y hy e => by
    subst e
    rcases hsub x hx with h1 | h1
    · rcases List.mem_cons.1 hy with rfl | hy
      · exact hbn h1
      · exact hab x hy h1
    · have : x ∈ b :: fq := by
        rcases List.mem_cons.1 hy with rfl | hy
        · simp
        · exact hin x hy
      exact h1 this
  refine ⟨b :: (fa ++ fi' ++ fb), ⟨b, _, rfl, rfl, ?_, hb, ?_, this⟩, fun x hx => ?_⟩
  · refine List.nodup_cons.2 ⟨fun hm => ?_, ?_⟩
    · simp only [List.mem_append] at hm
      rcases hm with (hm | hm) | hm
      · exact hn1 (by rw [e2]; simp [hm])
      · exact old b hm b (by simp) rfl
      · exact hn1 (by rw [e2]; simp [hm])
    · rw [List.append_assoc]
      refine List.nodup_append.2 ⟨na, List.nodup_append.2 ⟨hnd, nib.2.1, fun x hx y hy e => old x hx y (by simp [hy]) e⟩, fun x hx y hy e => ?_⟩
      rcases List.mem_append.1 hy with hy | hy
      · exact old y hy x (by simp [hx]) e.symm
      · exact nd x hx y (by simp [hy]) e
  · have := hu.block b (hlt b (by simp)).1 hbn
    unfold Bk at hk ⊢
    rw [this]; exact hk
  · simp only [List.mem_cons, List.mem_append] at hx
    rcases hx with rfl | (hx | hx) | hx
    · exact .inl (by simp)
    · exact .inl (hin x (by simp [hx]))
    · exact .inr hx
    · exact .inl (hin x (by simp [hx]))

theorem mem_rows {κ : Type} {L : List (κ × Value × Nat)} {b : Nat} : b ∈ rows L ↔ ∃ x ∈ L, Blk x.2.1 b := by
  unfold rows
  rw [List.mem_flatMap]
  exact ⟨fun ⟨x, h1, h2⟩ => ⟨x, h1, mem_bl.1 h2⟩, fun ⟨x, h1, h2⟩ => ⟨x, h1, mem_bl.2 h2⟩⟩

theorem MR.set' {κ β : Type} [DecidableEq κ] {R R' : Value → β → Prop} {L : List (κ × Value × Nat)} {m : List (κ × β)} (h : MR R L m) (k : κ) {v : Value} {y : β} (hn : (L.map (·.1)).Nodup)
    (himp : ∀ x ∈ L, k ≠ x.1 → ∀ y, R x.2.1 y → R' x.2.1 y) (hv : R' v y) (c : Nat) : MR R' (mset k v c L) (mput k y m) := by
  induction h with
  | nil => exact .cons hv .nil
  | @cons a u n z L m h1 h2 ih =>
    simp only [List.map_cons, List.nodup_cons] at hn
    unfold mset mput
    by_cases e : k = a
    · subst e
      simp only [if_true]
      refine .cons hv ?_
      have : ∀ x ∈ L, k ≠ x.1 := fun x hx e => hn.1 (List.mem_map.2 ⟨x, hx, e.symm⟩)
      have himp' : ∀ x ∈ L, ∀ y, R x.2.1 y → R' x.2.1 y := fun x hx => himp x (by simp [hx]) (this x hx)
      clear himp ih hn this h1
      induction h2 with
      | nil => exact .nil
      | @cons a3 v3 n3 y3 L3 m3 h3 _ ih2 => exact .cons (himp' (a3, v3, n3) List.mem_cons_self _ h3) (ih2 fun x hx => himp' x (List.mem_cons_of_mem _ hx))
    · simp only [e, if_false]
      exact .cons (himp (a, u, n) List.mem_cons_self e _ h1) (ih hn.2 fun x hx => himp x (List.mem_cons_of_mem _ hx))

theorem mset_rows {κ : Type} [DecidableEq κ] (k : κ) (u : Value) (c : Nat) : ∀ {L : List (κ × Value × Nat)} {b : Nat}, (L.map (·.1)).Nodup → b ∈ rows (mset k u c L) → Blk u b ∨ ∃ x ∈ L, k ≠ x.1 ∧ Blk x.2.1 b
  | [], b, _, h => by
    obtain ⟨x, hx, hb⟩ := mem_rows.1 h
    simp [mset] at hx
    subst hx
    exact .inl hb
  | y :: L, b, hn, h => by
    simp only [List.map_cons, List.nodup_cons] at hn
    unfold mset at h
    by_cases e : k = y.1
    · rw [if_pos e] at h
      obtain ⟨x, hx, hb⟩ := mem_rows.1 h
      rcases List.mem_cons.1 hx with rfl | hx
      · exact .inl hb
      · exact .inr ⟨x, by simp [hx], fun e2 => hn.1 (List.mem_map.2 ⟨x, hx, by rw [← e2, e]⟩), hb⟩
    · rw [if_neg e] at h
      obtain ⟨x, hx, hb⟩ := mem_rows.1 h
      rcases List.mem_cons.1 hx with rfl | hx
      · exact .inr ⟨x, by simp, e, hb⟩
      · rcases mset_rows k u c hn.2 (mem_rows.2 ⟨x, hx, hb⟩) with h | ⟨z, h1, h2, h3⟩
        · exact .inl h
        · exact .inr ⟨z, by simp [h1], h2, h3⟩

theorem mset_rows_nodup {κ : Type} [DecidableEq κ] (k : κ) (u : Value) (c : Nat) : ∀ {L : List (κ × Value × Nat)}, (L.map (·.1)).Nodup → (rows L).Nodup → (∀ b, Blk u b → ∀ x ∈ L, k ≠ x.1 → ¬ Blk x.2.1 b) → (rows (mset k u c L)).Nodup
  | [], _, _, _ => by simpa [mset, rows] using bl_nodup u
  | y :: L, hn, hr, hd => by
    have hn0 := hn
    simp only [List.map_cons, List.nodup_cons] at hn
    unfold rows at hr
    rw [List.flatMap_cons, List.nodup_append] at hr
    obtain ⟨r1, r2, r3⟩ := hr
    unfold mset
    by_cases e : k = y.1
    · rw [if_pos e]
      unfold rows
      rw [List.flatMap_cons, List.nodup_append]
      refine ⟨bl_nodup u, r2, fun a ha b hb e2 => ?_⟩
      subst e2
      obtain ⟨x, hx, hxb⟩ := mem_rows.1 (show a ∈ rows L from hb)
      exact hd a (mem_bl.1 ha) x (by simp [hx]) (fun e2 => hn.1 (List.mem_map.2 ⟨x, hx, by rw [← e2, e]⟩)) hxb
    · rw [if_neg e]
      unfold rows
      rw [List.flatMap_cons, List.nodup_append]
      refine ⟨r1, mset_rows_nodup k u c hn.2 r2 fun b hb x hx => hd b hb x (by simp [hx]), fun a ha b hb e2 => ?_⟩
      subst e2
      rcases mset_rows k u c hn.2 (show a ∈ rows (mset k u c L) from hb) with h | ⟨x, h1, h2, h3⟩
      · exact hd a h y (by simp) e (mem_bl.1 ha)
      · exact r3 a ha a (mem_rows.2 ⟨x, h1, h3⟩) rfl

theorem look_mem {κ : Type} [DecidableEq κ] {k : κ} {v : Value} {L : List (κ × Value × Nat)} (h : look k L = some v) : ∃ x ∈ L, k = x.1 ∧ x.2.1 = v := by
  unfold look at h
  rw [Option.map_eq_some_iff] at h
  obtain ⟨x, hx, hv⟩ := h
  exact ⟨x, List.mem_of_find?_eq_some hx, by simpa using List.find?_some hx, hv⟩

section
variable {P : Program} {e te tm t : TypeId} {l : List ((α : Type) × Fk α × α)} {S : Nat → Prop} {w : World} {v : Value} {cs : List Value} {fp : List Nat} {kk : Value → World → Prop}

/-- A row is lent out of an object's map: what is done to it and to new blocks alone can be put back under its key. -/
theorem Ob.lend {κ β : Type} [DecidableEq κ] {ky : Ky P t κ} {k : Kd β} {er : TypeId} (h : Ob e l S w v cs fp) {i : Nat} {m : List (κ × List β)} (hi : l[i]? = some ⟨_, fMapO ky k er, m⟩) {c : Value} (hc : cs[i]? = some c) (ht : P.underlying tm = some (.map t te))
    (hz : ∀ w, (zeroValue te).run P w = .ok (.slice none 0 0) w) (a : κ) :
    ∃ r, Ow k er S 0 w r ((mget a m).getD []) ∧ (∀ b, Blk r b → b ∈ fp) ∧
      (∀ {ρ : En} {d : Option Tmp} {ty : TypeId} {pos : String} {af : Array Edge} {g : Option (Nat × Bool)} {x y : Operand}, ev ρ x = c → ev ρ y = ky.enc a → Rw P ⟨d, .lookup tm x y false, ty, pos, af, g⟩ ρ w r) ∧
      ∀ {w1 : World} {u : Value} {xs : List β}, Up (Blk r) w w1 → Ow k er S 0 w1 u xs → (∀ b, Blk u b → Blk r b ∨ b ∉ fp) →
        ∀ {ρ : En} {d : Option Tmp} {ty : TypeId} {pos : String} {af : Array Edge} {g : Option (Nat × Bool)} {x y z : Operand} {kk : Value → World → Prop}, ev ρ x = c → ev ρ y = ky.enc a → ev ρ z = u →
          (∀ w' fp', Ob e (l.set i ⟨_, fMapO ky k er, mput a xs m⟩) S w' v cs fp' → (∀ b ∈ fp', b ∈ fp ∨ Blk u b) → Up (fun b => b ∈ fp) w w' → kk undef w') →
          Does P ⟨d, .mapUpdate tm x y z, ty, pos, af, g⟩ ρ w1 kk := by
  obtain ⟨fi, hr, hsub, hnd, _, hturn⟩ := h.turnN hi hc
  obtain ⟨b, L, cl, rfl, rfl, hS, hM, hR⟩ := hr
  have hbr := (List.nodup_cons.1 hnd).1
  have hrn := (List.nodup_cons.1 hnd).2
  have hlk : ∃ r, (look a L).getD (.slice none 0 0) = r ∧ Ow k er S 0 w r ((mget a m).getD []) ∧ ∀ q, Blk r q → ∃ x ∈ L, a = x.1 ∧ Blk x.2.1 q := by
    rcases hR.look a with ⟨h1, h2⟩ | ⟨v1, y1, h1, h2, h3⟩
    · exact ⟨_, by rw [h2]; first | done | rfl, by rw [h1]; exact Ow.nil _ _ _ _ _, fun q hq => by simp [Blk, Value.ownBlock] at hq⟩
    · obtain ⟨x, hx, hk, hv⟩ := look_mem h2
      exact ⟨v1, by rw [h2]; rfl, by rw [h1]; exact h3, fun q hq => ⟨x, hx, hk, by rw [hv]; exact hq⟩⟩
  obtain ⟨r, hlr, hor, hrb⟩ := hlk
  have hrows : ∀ q, Blk r q → q ∈ rows L := fun q hq => by obtain ⟨x, hx, _, hb⟩ := hrb q hq; exact mem_rows.2 ⟨x, hx, hb⟩
  refine ⟨r, hor, fun q hq => hsub q (by simp [hrows q hq]), fun hx hy => rw_look hM ht (hz w) hx hy hlr, fun {w1 u xs} up hu hub {ρ d ty pos af g x y z kk} hx hy hzz hk => ?_⟩
  have hbn : ¬ Blk r b := fun hq => hbr (hrows b hq)
  have hM1 := hM.to (up.block b hM.lt hbn)
  have keyed : ∀ {x q}, x ∈ L → a ≠ x.1 → Blk x.2.1 q → ¬ Blk r q := fun {x q} hx hne hq hqr => by
    obtain ⟨z, hz1, hz2, hz3⟩ := hrb q hqr
    -- two entries with one block are one
    have : ∀ {L : List (κ × Value × Nat)}, (rows L).Nodup → (L.map (·.1)).Nodup → x ∈ L → z ∈ L → x = z := by
      intro L
      induction L with
      | nil => intro _ _ hx; cases hx
      | cons y L ih =>
        intro hr hn hx hz
        unfold rows at hr
        rw [List.flatMap_cons, List.nodup_append] at hr
        simp only [List.map_cons, List.nodup_cons] at hn
        rcases List.mem_cons.1 hx with hx1 | hx1
        · rcases List.mem_cons.1 hz with hz4 | hz4
          · rw [hx1, hz4]
          · exact absurd rfl (hr.2.2 q (by rw [← hx1]; exact mem_bl.2 hq) q (mem_rows.2 ⟨z, hz4, hz3⟩))
        · rcases List.mem_cons.1 hz with hz4 | hz4
          · exact absurd rfl (hr.2.2 q (by rw [← hz4]; exact mem_bl.2 hz3) q (mem_rows.2 ⟨x, hx1, hq⟩))
          · exact ih hr.2.1 hn.2 hx1 hz4
    have := this hrn hM.keys hx hz1
    subst this
    exact hne hz2
  refine dc_mset hM1 ht hx hy hzz fun w' c' hM' up2 => ?_
  have hbl : b < w.heap.size := hM.lt
  have upAll : Up (fun q => q ∈ b :: rows L) w w' := (up.mono fun q _ hq => by simp [hrows q hq]).then up2 fun q _ hq => by have hq : q = b := hq; simp [hq]
  have hSb : Sm S w1 w' := up2.sm fun q hq _ hqb => by have hqb : q = b := hqb; rw [hqb] at hq; exact hS hq
  have hSr : Sm S w w1 := up.sm fun q hq _ hqr => hor.not q hqr hq
  have hub' : ∀ q, Blk u q → q ≠ b := fun q hq e => by
    subst e
    rcases hub q hq with h1 | h1
    · exact hbn h1
    · exact h1 (hsub q (by simp))
  have hR' : MR (fun v xs => Ow k er S 0 w' v xs) (mset a u cl L) (mput a xs m) := by
    refine hR.set' a hM.keys (fun x hx hne y hy => ?_) ?_ cl
    · have h1 : Ow k er S 0 w1 x.2.1 y := hy.to up (fun q hq _ hqr => hor.not q hqr hq) fun q hq hqr => keyed hx hne hq hqr
      exact h1.to up2 (fun q hq _ hqb => by have hqb : q = b := hqb; rw [hqb] at hq; exact hS hq) fun q hq hqb => by
        have hqb : q = b := hqb
        rw [hqb] at hq
        exact hbr (mem_rows.2 ⟨x, hx, hq⟩)
    · exact hu.to up2 (fun q hq _ hqb => by have hqb : q = b := hqb; rw [hqb] at hq; exact hS hq) fun q hq hqb => hub' q hq hqb
  have hsubN : ∀ q ∈ b :: rows (mset a u cl L), q ∈ b :: rows L ∨ q ∉ fp := fun q hq => by
    rcases List.mem_cons.1 hq with rfl | hq
    · exact .inl (by simp)
    · rcases mset_rows a u cl hM.keys hq with h1 | ⟨x, h1, _, h3⟩
      · rcases hub q h1 with h2 | h2
        · exact .inl (by simp [hrows q h2])
        · exact .inr h2
      · exact .inl (by simp [mem_rows.2 ⟨x, h1, h3⟩])
  have hndN : (b :: rows (mset a u cl L)).Nodup := by
    refine List.nodup_cons.2 ⟨fun hq => ?_, mset_rows_nodup a u cl hM.keys hrn fun q hq x hx hne hxq => ?_⟩
    · rcases mset_rows a u cl hM.keys hq with h1 | ⟨x, h1, _, h3⟩
      · exact hub' b h1 rfl
      · exact hbr (mem_rows.2 ⟨x, h1, h3⟩)
    · rcases hub q hq with h1 | h1
      · exact keyed hx hne hxq h1
      · exact h1 (hsub q (by simp [mem_rows.2 ⟨x, hx, hxq⟩]))
  obtain ⟨fp', ho, hfp⟩ := hturn (x' := mput a xs m) (fi' := b :: rows (mset a u cl L)) ⟨b, _, c', rfl, rfl, hS, hM', hR'⟩ upAll hndN hsubN
  refine hk w' fp' ho (fun q hq => ?_) (upAll.mono fun q _ hq => hsub q hq)
  rcases hfp q hq with h1 | h1
  · exact .inl h1
  · rcases List.mem_cons.1 h1 with rfl | h1
    · exact .inl (hsub _ (by simp))
    · rcases mset_rows a u cl hM.keys h1 with h2 | ⟨x, h2, _, h3⟩
      · exact .inr h2
      · exact .inl (hsub q (by simp [mem_rows.2 ⟨x, h2, h3⟩]))
end
end Go.Mg
