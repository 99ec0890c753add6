/- Maps: a block that holds entries, in the order in which they were laid; look-up, store, removal, length, range. -/
import Derived.Test.YtbkkobbjmhgkjaaDoorMgH
import Derived.Maps.RangeRun
import Derived.MapKept
namespace Go.Mg
open Go
open Go.ChangeMaps (setBlock)
set_option linter.unusedVariables false

/-- An entry: key, value, stamp. -/
def ent {α : Type} (enc : α → Value) (x : α × Value × Nat) : MapEntry := ⟨enc x.1, x.2.1, x.2.2⟩

/-- Where a key is. -/
def fnd {α : Type} [DecidableEq α] (k : α) : List (α × Value × Nat) → Nat → Option (Nat × Value)
  | [], _ => none
  | x :: l, i => if k = x.1 then some (i, x.2.1) else fnd k l (i + 1)

/-- A kind of keys. -/
structure Ky (P : Program) (t : TypeId) (α : Type) [DecidableEq α] where
  enc : α → Value
  ok : α → Prop
  chk : ∀ (b : Bool) (k : α) (w : World), (Instr.checkKey b 10000 t (enc k)).run P w = .ok () w
  find : ∀ (k : α) (L : List (α × Value × Nat)) (w : World), (Instr.findKey t (enc k) (L.map (ent enc))).run P w = .ok (fnd k L 0) w
  same : ∀ k, Instr.sameBits 10000 (enc k) (enc k) = true

variable {P : Program} {w : World} {α : Type} [DecidableEq α] {t : TypeId}

theorem run_underlying {d : TypeDesc} (h : P.underlying t = some d) : (underlying t).run P w = .ok d w := by
  simp only [underlying, program, Sem.run_bind, Sem.run, h, Result.andThen_ok, Sem.run_pure]

def kyI {P : Program} {t : TypeId} {q : IntKind} (h : P.underlying t = some (.int q)) : Ky P t Int where
  enc := .int q
  ok _ := True
  chk b k w := by
    unfold Instr.checkKey
    simp only [Sem.run_bind, run_underlying h, Result.andThen_ok, Sem.run_pure]
  find k L w := by
    have H : ∀ (L : List (Int × Value × Nat)) (i : Nat), Instr.findNow (.int q) (.int q k) (L.map (ent (.int q))) i = some (fnd k L i) := by
      intro L
      induction L with
      | nil => intro i; rfl
      | cons x L ih =>
        intro i
        simp only [List.map_cons, Instr.findNow, ent, Instr.sameNow, if_true, fnd]
        by_cases e : k = x.1
        · simp [e]
        · have e' : (k == x.1) = false := by simpa using e
          rw [e', if_neg e]
          exact ih (i + 1)
    unfold Instr.findKey
    simp only [Sem.run_bind, run_underlying h, Result.andThen_ok, H L 0, Sem.run_pure]
  same k := by simp [Instr.sameBits]

theorem ba_beq (a b : ByteArray) : (a == b) = decide (a = b) := by
  by_cases h : a = b
  · rw [decide_eq_true h]; exact (MapKept.bytes_beq a b).2 h
  · rw [decide_eq_false h]
    cases e : a == b with
    | false => rfl
    | true => exact absurd ((MapKept.bytes_beq a b).1 e) h

def kyS {P : Program} {t : TypeId} (h : P.underlying t = some .string) : Ky P t ByteArray where
  enc := .string
  ok _ := True
  chk b k w := by
    unfold Instr.checkKey
    simp only [Sem.run_bind, run_underlying h, Result.andThen_ok, Sem.run_pure]
  find k L w := by
    have H : ∀ (L : List (ByteArray × Value × Nat)) (i : Nat), Instr.findNow .string (.string k) (L.map (ent .string)) i = some (fnd k L i) := by
      intro L
      induction L with
      | nil => intro i; rfl
      | cons x L ih =>
        intro i
        simp only [List.map_cons, Instr.findNow, ent, Instr.sameNow, fnd, ba_beq]
        by_cases e : k = x.1
        · rw [decide_eq_true e, if_pos e]
        · rw [decide_eq_false e, if_neg e]
          exact ih (i + 1)
    unfold Instr.findKey
    simp only [Sem.run_bind, run_underlying h, Result.andThen_ok, H L 0, Sem.run_pure]
  same k := by simp [Instr.sameBits, ba_beq]

/-- Keys that are asked by '==' (structs, arrays). -/
def kyG {P : Program} {t : TypeId} {α : Type} [DecidableEq α] {desc : TypeDesc} (h : P.underlying t = some desc) (enc : α → Value) (hnow : ∀ a b, Instr.sameNow desc (enc a) (enc b) = none)
    (heq : ∀ a b w, (Op.equal t (enc a) (enc b)).run P w = .ok (decide (a = b)) w) (hchk : ∀ b k w, (Instr.checkKey b 10000 t (enc k)).run P w = .ok () w) (hsame : ∀ k, Instr.sameBits 10000 (enc k) (enc k) = true) : Ky P t α where
  enc := enc
  ok _ := True
  chk := hchk
  find k L w := by
    have H : ∀ (L : List (α × Value × Nat)) (i : Nat), (Instr.findAsking t (enc k) (L.map (ent enc)) i).run P w = .ok (fnd k L i) w := by
      intro L
      induction L with
      | nil => intro i; simp [Instr.findAsking, fnd, Sem.run_pure]
      | cons x L ih =>
        intro i
        simp only [List.map_cons, Instr.findAsking, ent, Sem.run_bind, heq, Result.andThen_ok, fnd]
        by_cases e : k = x.1
        · simp [e, Sem.run_pure]
        · simp only [e, decide_false, Bool.false_eq_true, if_false]
          exact ih (i + 1)
    unfold Instr.findKey
    simp only [Sem.run_bind, run_underlying h, Result.andThen_ok]
    cases L with
    | nil => simp [Instr.findNow, fnd, Sem.run_pure]
    | cons x L =>
      have : Instr.findNow desc (enc k) ((x :: L).map (ent enc)) 0 = none := by simp [Instr.findNow, ent, hnow]
      rw [this]
      exact H (x :: L) 0
  same := hsame

/-- Block b is a map of these entries; their stamps are apart, and below the clock. -/
structure Mp (ky : Ky P t α) (w : World) (b : Nat) (L : List (α × Value × Nat)) (c : Nat) : Prop where
  h : w.heap[b]? = some (.map (L.map (ent ky.enc)).toArray c)
  keys : (L.map (·.1)).Nodup
  born : (L.map (·.2.2)).Nodup
  clock : ∀ x ∈ L, x.2.2 < c

theorem Mp.to {ky : Ky P t α} {w' : World} {b : Nat} {L : List (α × Value × Nat)} {c : Nat} (h : Mp ky w b L c) (hb : w'.heap[b]? = w.heap[b]?) : Mp ky w' b L c := ⟨hb.trans h.h, h.keys, h.born, h.clock⟩
theorem Mp.lt {ky : Ky P t α} {b : Nat} {L : List (α × Value × Nat)} {c : Nat} (h : Mp ky w b L c) : b < w.heap.size := (Array.getElem?_eq_some_iff.1 h.h).1

/-- The value at a key. -/
def look (k : α) (L : List (α × Value × Nat)) : Option Value := (L.find? fun x => decide (k = x.1)).map (·.2.1)
theorem fnd_look (k : α) : ∀ (L : List (α × Value × Nat)) (i : Nat), (fnd k L i).map (·.2) = look k L
  | [], _ => rfl
  | x :: L, i => by
    unfold fnd look
    by_cases e : k = x.1
    · simp [e]
    · have := fnd_look k L (i + 1)
      unfold look at this
      simp [e, this]

variable {ρ : En} {d : Option Tmp} {x y v : Operand} {ty : TypeId} {pos : String} {af : Array Edge} {g : Option (Nat × Bool)} {tm te : TypeId}

theorem run_look {ky : Ky P t α} {b : Nat} {L : List (α × Value × Nat)} {c : Nat} (M : Mp ky w b L c) (ht : P.underlying tm = some (.map t te)) {z : Value} (hz : (zeroValue te).run P w = .ok z w) (k : α) (cm : Bool) :
    (Instr.lookup tm (.map (some b)) (ky.enc k) cm).run P w = .ok (if cm then .tuple #[(look k L).getD z, .bool (look k L).isSome] else (look k L).getD z) w := by
  have hf : (Instr.findKey t (ky.enc k) (L.map (ent ky.enc)).toArray.toList).run P w = .ok (fnd k L 0) w := ky.find k L w
  unfold Instr.lookup
  simp only [Sem.run_bind, run_underlying ht, Result.andThen_ok, MapKept.run_getObj_map M.h, ky.chk, Sem.run_pure, hf]
  rw [← fnd_look k L 0]
  cases fnd k L 0 with
  | none => cases cm <;> simp [Sem.run_bind, hz, Sem.run_pure, Result.andThen_ok]
  | some p => cases cm <;> simp [Sem.run_bind, Sem.run_pure, Result.andThen_ok]

theorem rw_look {ky : Ky P t α} {b : Nat} {L : List (α × Value × Nat)} {c : Nat} {z r : Value} {k : α} (M : Mp ky w b L c) (ht : P.underlying tm = some (.map t te)) (hz : (zeroValue te).run P w = .ok z w)
    (hx : ev ρ x = .map (some b)) (hy : ev ρ y = ky.enc k) (hr : (look k L).getD z = r) : Rw P ⟨d, .lookup tm x y false, ty, pos, af, g⟩ ρ w r := by
  unfold Rw
  simp only [execOp, hx, hy, Sem.run_bind, run_look M ht hz k false, Result.andThen_ok, hr]
  rfl
theorem rw_lookOk {ky : Ky P t α} {b : Nat} {L : List (α × Value × Nat)} {c : Nat} {z r : Value} {o : Bool} {k : α} (M : Mp ky w b L c) (ht : P.underlying tm = some (.map t te)) (hz : (zeroValue te).run P w = .ok z w)
    (hx : ev ρ x = .map (some b)) (hy : ev ρ y = ky.enc k) (hr : (look k L).getD z = r) (ho : (look k L).isSome = o) : Rw P ⟨d, .lookup tm x y true, ty, pos, af, g⟩ ρ w (.tuple #[r, .bool o]) := by
  unfold Rw
  simp only [execOp, hx, hy, Sem.run_bind, run_look M ht hz k true, Result.andThen_ok, hr, ho]
  rfl

/-- A store at a key. -/
def mset (k : α) (v : Value) (c : Nat) : List (α × Value × Nat) → List (α × Value × Nat)
  | [] => [(k, v, c)]
  | x :: L => if k = x.1 then (x.1, v, x.2.2) :: L else x :: mset k v c L
/-- Without a key. -/
def mdel (k : α) (L : List (α × Value × Nat)) : List (α × Value × Nat) := L.filter fun x => !decide (k = x.1)

theorem fnd_none {k : α} : ∀ {L : List (α × Value × Nat)} {i : Nat}, fnd k L i = none → ∀ x ∈ L, k ≠ x.1
  | [], _, _ => fun x hx => by cases hx
  | y :: L, i, h => by
    unfold fnd at h
    by_cases e : k = y.1
    · rw [if_pos e] at h; cases h
    · rw [if_neg e] at h
      intro x hx
      rcases List.mem_cons.1 hx with rfl | hx
      · exact e
      · exact fnd_none h x hx
theorem fnd_some {k : α} : ∀ {L : List (α × Value × Nat)} {i : Nat} {p : Nat × Value}, fnd k L i = some p → ∃ j, p.1 = i + j ∧ ∃ x, L[j]? = some x ∧ k = x.1 ∧ p.2 = x.2.1 ∧ ∀ m y, m < j → L[m]? = some y → k ≠ y.1
  | [], _, _, h => by cases h
  | y :: L, i, p, h => by
    unfold fnd at h
    by_cases e : k = y.1
    · rw [if_pos e] at h; cases h
      exact ⟨0, rfl, y, rfl, e, rfl, fun m y h => absurd h (Nat.not_lt_zero _)⟩
    · rw [if_neg e] at h
      obtain ⟨j, h1, x, h2, h3, h4, h5⟩ := fnd_some h
      refine ⟨j + 1, by omega, x, h2, h3, h4, fun m z hm hz => ?_⟩
      cases m with
      | zero => simp at hz; subst hz; exact e
      | succ m => exact h5 m z (by omega) (by simpa using hz)

theorem mset_none {k : α} {v : Value} {c : Nat} : ∀ {L : List (α × Value × Nat)}, (∀ x ∈ L, k ≠ x.1) → mset k v c L = L ++ [(k, v, c)]
  | [], _ => rfl
  | y :: L, h => by
    unfold mset
    rw [if_neg (h y (by simp)), mset_none fun x hx => h x (by simp [hx])]
    rfl
theorem mset_keys (k : α) (v : Value) (c : Nat) : ∀ (L : List (α × Value × Nat)), (mset k v c L).map (·.1) = if k ∈ L.map (·.1) then L.map (·.1) else L.map (·.1) ++ [k]
  | [] => by simp [mset]
  | y :: L => by
    unfold mset
    by_cases e : k = y.1
    · simp [e]
    · rw [if_neg e]
      simp only [List.map_cons, mset_keys k v c L, List.mem_cons, e, false_or]
      split <;> simp
theorem mset_mem {k : α} {v : Value} {c : Nat} : ∀ {L : List (α × Value × Nat)} {x : α × Value × Nat}, x ∈ mset k v c L → x ∈ L ∨ x = (k, v, c) ∨ ∃ n, x = (k, v, n) ∧ ∃ u, (k, u, n) ∈ L
  | [], x, h => by simp [mset] at h; exact .inr (.inl h)
  | y :: L, x, h => by
    unfold mset at h
    by_cases e : k = y.1
    · rw [if_pos e] at h
      rcases List.mem_cons.1 h with rfl | h
      · exact .inr (.inr ⟨y.2.2, by rw [e], y.2.1, by rw [e]; simp⟩)
      · exact .inl (by simp [h])
    · rw [if_neg e] at h
      rcases List.mem_cons.1 h with rfl | h
      · exact .inl (by simp)
      · rcases mset_mem h with h | h | ⟨n, h, u, hu⟩
        · exact .inl (by simp [h])
        · exact .inr (.inl h)
        · exact .inr (.inr ⟨n, h, u, by simp [hu]⟩)
theorem mset_born (k : α) (v : Value) (c : Nat) : ∀ (L : List (α × Value × Nat)), (mset k v c L).map (·.2.2) = if k ∈ L.map (·.1) then L.map (·.2.2) else L.map (·.2.2) ++ [c]
  | [] => by simp [mset]
  | y :: L => by
    unfold mset
    by_cases e : k = y.1
    · simp [e]
    · rw [if_neg e]
      simp only [List.map_cons, mset_born k v c L, List.mem_cons, e, false_or]
      split <;> simp
theorem mset_at {k : α} {v : Value} {c : Nat} : ∀ {L : List (α × Value × Nat)} {j : Nat} {x : α × Value × Nat}, L[j]? = some x → k = x.1 → (∀ m y, m < j → L[m]? = some y → k ≠ y.1) → mset k v c L = L.modify j fun x => (x.1, v, x.2.2)
  | [], _, _, h, _, _ => by simp at h
  | y :: L, 0, x, h, e, _ => by
    simp at h
    subst h
    unfold mset
    rw [if_pos e]
    rfl
  | y :: L, j + 1, x, h, e, hm => by
    unfold mset
    rw [if_neg (hm 0 y (by omega) rfl), mset_at (by simpa using h) e fun m z hj hz => hm (m + 1) z (by omega) (by simpa using hz)]
    rfl

/-- The world with another map in a block. -/
theorem Mp.set {ky : Ky P t α} {b : Nat} {L : List (α × Value × Nat)} {c : Nat} (M : Mp ky w b L c) (k : α) (v : Value) :
    Mp ky (setBlock w b (.map ((mset k v c L).map (ent ky.enc)).toArray (if k ∈ L.map (·.1) then c else c + 1))) b (mset k v c L) (if k ∈ L.map (·.1) then c else c + 1) where
  h := by
    have := M.lt
    simp [setBlock, this]
  keys := by
    rw [mset_keys]
    have := M.keys
    split
    · exact this
    · rename_i h
      exact List.nodup_append.2 ⟨this, by simp, fun a ha b hb e => by simp at hb; subst hb; subst e; exact h ha⟩
  born := by
    rw [mset_born]
    have := M.born
    split
    · exact this
    · refine List.nodup_append.2 ⟨this, by simp, fun a ha b hb e => ?_⟩
      simp at hb
      subst hb
      subst e
      obtain ⟨x, hx, e⟩ := List.mem_map.1 ha
      have := M.clock x hx
      omega
  clock x hx := by
    rcases mset_mem hx with h | h | ⟨n, h, u, hu⟩
    · have := M.clock x h; split <;> omega
    · subst h
      by_cases e : k ∈ L.map (·.1)
      · rw [if_pos e]
        exfalso
        -- the key is there: the entry keeps its own stamp
        have hb := mset_born k v c L
        rw [if_pos e] at hb
        have : c ∈ (mset k v c L).map (·.2.2) := List.mem_map.2 ⟨_, hx, rfl⟩
        rw [hb] at this
        obtain ⟨y, hy, e2⟩ := List.mem_map.1 this
        have := M.clock y hy
        omega
      · rw [if_neg e]; simp
    · subst h
      have := M.clock _ hu
      split <;> simp at * <;> omega

theorem Up.setBlock {b : Nat} {o : Obj} : Up (One b) w (setBlock w b o) := ⟨rfl, rfl, rfl, by simp [ChangeMaps.setBlock], fun k hk hne => by
  have : b ≠ k := fun e => hne e.symm
  simp [ChangeMaps.setBlock, Array.getElem?_setIfInBounds_ne this]⟩

theorem run_mset {ky : Ky P t α} {b : Nat} {L : List (α × Value × Nat)} {c : Nat} (M : Mp ky w b L c) (ht : P.underlying tm = some (.map t te)) (k : α) (v : Value) :
    (Instr.mapUpdate tm (.map (some b)) (ky.enc k) v).run P w = .ok () (setBlock w b (.map ((mset k v c L).map (ent ky.enc)).toArray (if k ∈ L.map (·.1) then c else c + 1))) := by
  have hf : (Instr.findKey t (ky.enc k) (L.map (ent ky.enc)).toArray.toList).run P w = .ok (fnd k L 0) w := ky.find k L w
  unfold Instr.mapUpdate
  simp only [Sem.run_bind, run_underlying ht, Result.andThen_ok, MapKept.run_getObj_map M.h, ky.chk, Sem.run_pure, hf]
  cases hq : fnd k L 0 with
  | none =>
    have hn := fnd_none hq
    have hnm : k ∉ L.map (·.1) := fun h => by obtain ⟨x, hx, e⟩ := List.mem_map.1 h; exact hn x hx e.symm
    rw [if_neg hnm, mset_none hn]
    simp only [MapKept.run_setObj_map _ M.h]
    simp [ChangeMaps.setBlock, ent]
  | some p =>
    obtain ⟨j, hj, x, hx, hkx, hv, hm⟩ := fnd_some hq
    obtain ⟨i, pv⟩ := p
    simp only [Nat.zero_add] at hj hv
    subst hj
    have hmem : k ∈ L.map (·.1) := List.mem_map.2 ⟨x, List.mem_of_getElem? hx, hkx.symm⟩
    rw [if_pos hmem, mset_at hx hkx hm]
    have hkey : (((L.map (ent ky.enc)).toArray[i]?).map (·.key)).getD (ky.enc k) = ky.enc k := by
      simp [hx, ent, hkx]
    simp only [hkey]
    have hst : (Instr.keyThatStays (ky.enc k) (ky.enc k)).run P w = .ok (ky.enc k) w := by
      unfold Instr.keyThatStays
      rw [ky.same k]
      simp [Sem.run_pure]
    simp only [Sem.run_bind, hst, Result.andThen_ok, MapKept.run_setObj_map _ M.h]
    have he : ((L.map (ent ky.enc)).toArray.modify i fun e => { e with key := ky.enc k, val := v }) = ((L.modify i fun x => (x.1, v, x.2.2)).map (ent ky.enc)).toArray := by
      apply Array.ext_getElem?
      intro m
      simp only [Array.getElem?_modify, List.getElem?_toArray, List.getElem?_map, List.getElem?_modify]
      by_cases e : i = m
      · subst e; simp [hx, ent, hkx]
      · simp [e]
    rw [he]
    rfl

theorem mdel_sub (k : α) (L : List (α × Value × Nat)) : (mdel k L).Sublist L := List.filter_sublist

theorem mdel_none {k : α} {L : List (α × Value × Nat)} (h : ∀ x ∈ L, k ≠ x.1) : mdel k L = L :=
  List.filter_eq_self.2 fun x hx => by simp [h x hx]
theorem mdel_at {k : α} : ∀ {L : List (α × Value × Nat)} {j : Nat} {x : α × Value × Nat}, (L.map (·.1)).Nodup → L[j]? = some x → k = x.1 → mdel k L = L.eraseIdx j
  | [], _, _, _, h, _ => by simp at h
  | y :: L, 0, x, hn, h, e => by
    simp at h
    subst h
    simp only [List.map_cons, List.nodup_cons] at hn
    have : ∀ z ∈ L, k ≠ z.1 := fun z hz e2 => hn.1 (List.mem_map.2 ⟨z, hz, by rw [← e2, e]⟩)
    have hd := mdel_none this
    unfold mdel at hd ⊢
    simp [e] at hd ⊢
    simpa using hd
  | y :: L, j + 1, x, hn, h, e => by
    simp only [List.map_cons, List.nodup_cons] at hn
    have hx : L[j]? = some x := by simpa using h
    have hne : k ≠ y.1 := fun e2 => hn.1 (List.mem_map.2 ⟨x, List.mem_of_getElem? hx, by rw [← e, e2]⟩)
    have := mdel_at hn.2 hx e
    unfold mdel at this ⊢
    simp [hne, this]

theorem Mp.del {ky : Ky P t α} {b : Nat} {L : List (α × Value × Nat)} {c : Nat} (M : Mp ky w b L c) (k : α) :
    Mp ky (setBlock w b (.map ((mdel k L).map (ent ky.enc)).toArray c)) b (mdel k L) c where
  h := by
    have := M.lt
    simp [setBlock, this]
  keys := M.keys.sublist ((mdel_sub k L).map _)
  born := M.born.sublist ((mdel_sub k L).map _)
  clock x hx := M.clock x ((mdel_sub k L).subset hx)

theorem run_mdel {ky : Ky P t α} {b : Nat} {L : List (α × Value × Nat)} {c : Nat} (M : Mp ky w b L c) (ht : P.underlying tm = some (.map t te)) (k : α) (tk ty : TypeId) :
    (Builtin.delete_ #[tm, tk] ty #[.map (some b), ky.enc k]).run P w = .ok (.tuple #[]) (setBlock w b (.map ((mdel k L).map (ent ky.enc)).toArray c)) := by
  have hf : (Instr.findKey t (ky.enc k) (L.map (ent ky.enc)).toArray.toList).run P w = .ok (fnd k L 0) w := ky.find k L w
  unfold Builtin.delete_
  simp only [List.getElem?_toArray, List.getElem?_cons_zero, List.getElem?_cons_succ, Sem.run_bind, run_underlying ht, Result.andThen_ok, MapKept.run_getObj_map M.h, ky.chk, hf]
  cases hq : fnd k L 0 with
  | none =>
    rw [mdel_none (fnd_none hq)]
    simp only [Sem.run_bind, MapKept.run_setObj_map _ M.h, Result.andThen_ok, Sem.run_pure]
    rfl
  | some p =>
    obtain ⟨j, hj, x, hx, hkx, hv, hm⟩ := fnd_some hq
    obtain ⟨i, pv⟩ := p
    simp only [Nat.zero_add] at hj hv
    subst hj
    simp only [Sem.run_bind, MapKept.run_setObj_map _ M.h, Result.andThen_ok, Sem.run_pure]
    have he : (L.map (ent ky.enc)).toArray.eraseIdxIfInBounds i = ((mdel k L).map (ent ky.enc)).toArray := by
      rw [mdel_at M.keys hx hkx]
      have hi : i < L.length := (List.getElem?_eq_some_iff.1 hx).1
      simp [Array.eraseIdxIfInBounds, hi]
      apply List.ext_getElem?
      intro m
      simp only [List.getElem?_eraseIdx, List.getElem?_map]
      split <;> rfl
    rw [he]
    rfl

theorem run_mlen {ky : Ky P t α} {b : Nat} {L : List (α × Value × Nat)} {c : Nat} (M : Mp ky w b L c) (ht : P.underlying tm = some (.map t te)) (ty : TypeId) :
    (Builtin.len_ #[tm] ty #[.map (some b)]).run P w = .ok (.int .i64 L.length) w := by
  unfold Builtin.len_
  simp [Sem.run_bind, run_underlying ht, Result.andThen_ok, MapKept.run_getObj_map M.h, Sem.run_pure, goInt]

variable {kk : Value → World → Prop}

theorem dc_mset {ky : Ky P t α} {b : Nat} {L : List (α × Value × Nat)} {c : Nat} {k : α} {u : Value} (M : Mp ky w b L c) (ht : P.underlying tm = some (.map t te))
    (hx : ev ρ x = .map (some b)) (hy : ev ρ y = ky.enc k) (hv : ev ρ v = u) (h : ∀ w' c', Mp ky w' b (mset k u c L) c' → Up (One b) w w' → kk undef w') :
    Does P ⟨d, .mapUpdate tm x y v, ty, pos, af, g⟩ ρ w kk := by
  have hrun : (execOp (ev ρ) ⟨d, .mapUpdate tm x y v, ty, pos, af, g⟩).run P w = .ok .skip (setBlock w b (.map ((mset k u c L).map (ent ky.enc)).toArray (if k ∈ L.map (·.1) then c else c + 1))) := by
    simp only [execOp, hx, hy, hv, Sem.run_bind, run_mset M ht, Result.andThen_ok]
    rfl
  unfold Does
  rw [hrun]
  exact h _ _ (M.set k u) Up.setBlock

theorem dc_mdel {ky : Ky P t α} {b : Nat} {L : List (α × Value × Nat)} {c : Nat} {k : α} {tk : TypeId} (M : Mp ky w b L c) (ht : P.underlying tm = some (.map t te))
    (hx : ev ρ x = .map (some b)) (hy : ev ρ y = ky.enc k) (h : ∀ w', Mp ky w' b (mdel k L) c → Up (One b) w w' → kk (.tuple #[]) w') :
    Does P ⟨d, .call { callee := .builtin .delete, args := #[x, y], argTypes := #[tm, tk] }, ty, pos, af, g⟩ ρ w kk := by
  have hrun : (execOp (ev ρ) ⟨d, .call { callee := .builtin .delete, args := #[x, y], argTypes := #[tm, tk] }, ty, pos, af, g⟩).run P w = .ok (.value (.tuple #[])) (setBlock w b (.map ((mdel k L).map (ent ky.enc)).toArray c)) := by
    have := run_mdel M ht k tk ty
    simp [execOp, resolve, invoke, builtin, hx, hy, Sem.run_bind, this, Result.andThen_ok, Sem.run_pure]
  unfold Does
  rw [hrun]
  exact h _ (M.del k) Up.setBlock

theorem rw_mlen {ky : Ky P t α} {b : Nat} {L : List (α × Value × Nat)} {c : Nat} (M : Mp ky w b L c) (ht : P.underlying tm = some (.map t te)) (hx : ev ρ x = .map (some b)) :
    Rw P ⟨d, .call { callee := .builtin .len, args := #[x], argTypes := #[tm] }, ty, pos, af, g⟩ ρ w (.int .i64 L.length) := by
  have := run_mlen M ht ty
  unfold Rw
  simp [execOp, resolve, invoke, builtin, hx, Sem.run_bind, this, Result.andThen_ok, Sem.run_pure]

/-! ### Range over a map -/

/-- Block r is an iterator over the map in block b, whose entries are L; rem are still to come; lst came last. -/
def It {α : Type} (w : World) (r b : Nat) (L : List (α × Value × Nat)) (c : Nat) (rem : List (α × Value × Nat)) (lst : Option (α × Value × Nat)) : Prop :=
  ∃ seen : Array Nat, w.heap[r]? = some (.mapIter (some b) c seen c) ∧ rem = (L.filter fun x => !seen.contains x.2.2) ∧ seen.back? = lst.map (·.2.2)

theorem It.to {α : Type} {w' : World} {r b c : Nat} {L rem : List (α × Value × Nat)} {lst : Option (α × Value × Nat)} (h : It w r b L c rem lst) (hb : w'.heap[r]? = w.heap[r]?) : It w' r b L c rem lst :=
  let ⟨s, h1, h2⟩ := h
  ⟨s, hb.trans h1, h2⟩
theorem It.lt {α : Type} {r b c : Nat} {L rem : List (α × Value × Nat)} {lst : Option (α × Value × Nat)} (h : It w r b L c rem lst) : r < w.heap.size := by
  obtain ⟨s, h1, _⟩ := h; exact (Array.getElem?_eq_some_iff.1 h1).1
theorem It.sub {α : Type} {r b c : Nat} {L rem : List (α × Value × Nat)} {lst : Option (α × Value × Nat)} (h : It w r b L c rem lst) : rem.Sublist L := by
  obtain ⟨s, _, h2, _⟩ := h; subst h2; exact List.filter_sublist
/-- An entry is taken out of the map. -/
theorem It.del {w' : World} {r b c : Nat} {L rem : List (α × Value × Nat)} {lst : Option (α × Value × Nat)} (h : It w r b L c rem lst) (k : α) (hb : w'.heap[r]? = w.heap[r]?) : It w' r b (mdel k L) c (mdel k rem) lst := by
  obtain ⟨s, h1, h2, h3⟩ := h
  refine ⟨s, hb.trans h1, ?_, h3⟩
  subst h2
  unfold mdel
  rw [List.filter_filter, List.filter_filter]
  congr 1
  funext x
  exact Bool.and_comm _ _

theorem dc_range {ky : Ky P t α} {b : Nat} {L : List (α × Value × Nat)} {c : Nat} (M : Mp ky w b L c) (ht : P.underlying tm = some (.map t te))
    (hx : ev ρ x = .map (some b)) (h : ∀ r w', w.heap.size ≤ r → r < w'.heap.size → It w' r b L c L none → Up No w w' → kk (.pointer (some ⟨r, 0, none⟩)) w') :
    Does P ⟨d, .range tm x, ty, pos, af, g⟩ ρ w kk := by
  have hrun : (execOp (ev ρ) ⟨d, .range tm x, ty, pos, af, g⟩).run P w = .ok (.value (.pointer (some ⟨w.heap.size, 0, none⟩))) (w.alloc (.mapIter (some b) c #[] c)) := by
    simp only [execOp, hx, Instr.range, Sem.run_bind, run_underlying ht, Result.andThen_ok, MapKept.run_getObj_map M.h, Sem.run_pure]
    rfl
  unfold Does
  rw [hrun]
  refine h _ _ (Nat.le_refl _) (by simp) ⟨#[], heap_alloc_new _ _, ?_, rfl⟩ (Up.alloc _ _ _)
  exact (List.filter_eq_self.2 fun x _ => by simp).symm

theorem dc_next {ky : Ky P t α} {r b : Nat} {L rem : List (α × Value × Nat)} {c : Nat} {lst : Option (α × Value × Nat)} (M : Mp ky w b L c) (I : It w r b L c rem lst) (hx : ev ρ x = .pointer (some ⟨r, 0, none⟩))
    (h0 : rem = [] → kk (.tuple #[.bool false]) w)
    (h1 : ∀ e w', e ∈ rem → It w' r b L c (rem.filter fun z => !decide (e.2.2 = z.2.2)) (some e) → Up (One r) w w' → kk (.tuple #[.bool true, ky.enc e.1, e.2.1]) w') :
    Does P ⟨d, .next x false, ty, pos, af, g⟩ ρ w kk := by
  obtain ⟨seen, hr, hrem, hl⟩ := I
  have hleft : (leftOf (L.map (ent ky.enc)).toArray seen).toList = rem.map (ent ky.enc) := by
    subst hrem
    unfold leftOf
    rw [Array.toList_filter, List.filter_map]
    congr 1
  have hbm : b ≠ r := fun e => by subst e; rw [M.h] at hr; cases hr
  rcases run_next_at (P := P) w ty r b c c seen (L.map (ent ky.enc)).toArray c hr M.h (fun x hx => by
      obtain ⟨y, hy, rfl⟩ := List.mem_map.1 (by simpa using hx : x ∈ L.map (ent ky.enc))
      exact M.clock y hy) (Nat.le_refl _) with ⟨hz, hrun⟩ | ⟨e, he, w1, hw1, hrun⟩
  · have : rem = [] := by
      have h := congrArg List.length hleft
      simp only [Array.length_toList, List.length_map] at h
      exact List.eq_nil_of_length_eq_zero (by omega)
    unfold Does
    have hrun' : (execOp (ev ρ) ⟨d, .next x false, ty, pos, af, g⟩).run P w = .ok (.value (.tuple #[.bool false])) w := by
      simp only [execOp, hx, Sem.run_bind, hrun, Result.andThen_ok, Sem.run_pure]
    rw [hrun']
    exact h0 this
  · rw [hleft] at he
    obtain ⟨y, hy, rfl⟩ := List.mem_map.1 he
    unfold Does
    have hrun' : (execOp (ev ρ) ⟨d, .next x false, ty, pos, af, g⟩).run P w = .ok (.value (.tuple #[.bool true, ky.enc y.1, y.2.1])) (setBlock w1 r (.mapIter (some b) c (seen.push y.2.2) c)) := by
      simp only [execOp, hx, Sem.run_bind, hrun, Result.andThen_ok, Sem.run_pure, ent]
    rw [hrun']
    have hrl : r < w.heap.size := (Array.getElem?_eq_some_iff.1 hr).1
    have hw1h : w1.heap = w.heap := by rcases hw1 with rfl | rfl <;> rfl
    refine h1 y _ hy ⟨seen.push y.2.2, ?_, ?_, by simp⟩ ?_
    · simp [setBlock, hw1h, hrl]
    · rw [hrem, List.filter_filter]
      congr 1
      funext z
      by_cases q : z.2.2 = y.2.2
      · simp [q]
      · have q' : ¬ y.2.2 = z.2.2 := fun h => q h.symm
        simp [q, q']
    · have hu : Up (One r) w w1 := by
        rcases hw1 with rfl | rfl
        · exact Up.refl _ _
        · exact Up.drew _ _
      exact hu.trans Up.setBlock

theorem rw_entry {ky : Ky P t α} {r b : Nat} {L rem : List (α × Value × Nat)} {c : Nat} {e : α × Value × Nat} (M : Mp ky w b L c) (I : It w r b L c rem (some e)) (he : e ∈ L) (hx : ev ρ x = .pointer (some ⟨r, 0, none⟩)) :
    Rw P ⟨d, .entry x, ty, pos, af, g⟩ ρ w (.tuple #[ky.enc e.1, e.2.1]) := by
  obtain ⟨seen, hr, hrem, hl⟩ := I
  have hs : ∃ s0, seen = Array.push s0 e.2.2 := by
    simp only [Option.map_some] at hl
    exact ⟨seen.pop, (Array.eq_push_pop_back!_of_size_ne_zero (by
      intro h0
      have : seen = #[] := Array.eq_empty_of_size_eq_zero h0
      subst this
      simp at hl)).trans (by rw [Array.back!_eq_back?, hl]; rfl)⟩
  obtain ⟨s0, rfl⟩ := hs
  have := run_entry_at (P := P) w r b c s0 (L.map (ent ky.enc)).toArray c (ent ky.enc e) hr M.h (by simpa using List.mem_map.2 ⟨e, he, rfl⟩) (by simpa [Function.comp_def, ent] using M.born)
  unfold Rw
  simp only [execOp, hx, Sem.run_bind, this, Result.andThen_ok, Sem.run_pure, ent]
end Go.Mg
