/- What makes and writes memory: variables, literals, append. -/
import Derived.Test.YtbkkobbjmhgkjaaDoorMgE
import Derived.Laws.Tables
import Derived.Great.BuildSlice
namespace Go.Mg
open Go
variable {P : Program} {N : Nat} {Q : Ps} {ρ : En} {w : World} {ops : Array Oper} {K : En → World → Prop} {l : List Oper}
variable {d : Option Tmp} {ty : TypeId} {pos : String} {af : Array Edge} {g : Option (Nat × Bool)}
variable {α : Type} {k : Kd α} {S : Nat → Prop} {v : Value} {xs : List α} {kk : Value → World → Prop}

/-- A block of cells. -/
def Bk (w : World) (b : Nat) (cs : List Value) (e : TypeId) : Prop := w.heap[b]? = some (.cells cs.toArray e (0, 0))
theorem Bk.lt {b : Nat} {cs : List Value} {e : TypeId} (h : Bk w b cs e) : b < w.heap.size := (Array.getElem?_eq_some_iff.1 h).1
theorem Bk.to {b : Nat} {cs : List Value} {e : TypeId} {F : Nat → Prop} {w' : World} (h : Bk w b cs e) (hu : Up F w w') (hF : ¬ F b) : Bk w' b cs e := (hu.block b h.lt hF).trans h
theorem Bk.sm {b : Nat} {cs : List Value} {e : TypeId} {w' : World} (h : Bk w b cs e) {T : Nat → Prop} (hu : Sm T w w') (hF : T b) : Bk w' b cs e := (hu b hF h.lt).trans h
theorem Bk.cell {b : Nat} {cs : List Value} {e : TypeId} (h : Bk w b cs e) (j : Nat) : w.cell? ⟨b, j, none⟩ = cs[j]? := by
  rw [cell_of_row w b j cs.toArray e (0, 0) h]; simp
theorem Bk.sl {b : Nat} {cs : List Value} {e : TypeId} {x : α} (h : Bk w b cs e) (hr : k.rep S w cs x) : Row k S w b 0 [x] := fun i y hy => by
  cases i with
  | zero =>
    simp at hy; subst hy
    refine ⟨cs, hr, fun j c hj => ?_⟩
    rw [show 0 + 0 * k.sz + j = j from by omega, h.cell, hj]
  | succ i => simp at hy

section
variable {x y z : Operand} {t t2 e by_ : TypeId} {ik : IntKind} {i : Int} {b o : Nat} {cs : List Value}

/-! ### Variables in memory -/

theorem dc_new {e : TypeId} {cs : Array Value} (h : ∀ b w', w.heap.size ≤ b → b < w'.heap.size → Up No w w' → Bk w' b cs.toList e → kk (.pointer (some ⟨b, 0, none⟩)) w') :
    kk (.pointer (some ⟨w.heap.size, 0, none⟩)) (w.alloc (.cells cs e)) := by
  refine h _ _ (Nat.le_refl _) (by simp) (Up.alloc _ _ _) ?_
  unfold Bk
  rw [heap_alloc_new]

theorem dc_box {cs : List Value} (hx : (ev ρ x).cells = cs.toArray)
    (h : ∀ b w', w.heap.size ≤ b → b < w'.heap.size → Up No w w' → Bk w' b cs e → kk (.pointer (some ⟨b, 0, none⟩)) w') :
    Does P ⟨d, .box e x, ty, pos, af, g⟩ ρ w kk := by
  have hrun : (execOp (ev ρ) ⟨d, .box e x, ty, pos, af, g⟩).run P w = .ok (.value (.pointer (some ⟨w.heap.size, 0, none⟩))) (w.alloc (.cells cs.toArray e)) := by
    simp [execOp, Instr.box, newVar, newRow, hx]
  unfold Does
  rw [hrun]
  exact dc_new (cs := cs.toArray) (by simpa using h)

/-- The zero value's cells. -/
def zeroOf (P : Program) (e : TypeId) : Option (List Value) := ((P.info? e).bind (·.zero)).map (·.cells.toList)
theorem dc_alloc {cs : List Value} (hz : zeroOf P e = some cs)
    (h : ∀ b w', w.heap.size ≤ b → b < w'.heap.size → Up No w w' → Bk w' b cs e → kk (.pointer (some ⟨b, 0, none⟩)) w') :
    Does P ⟨d, .alloc e, ty, pos, af, g⟩ ρ w kk := by
  unfold zeroOf at hz
  cases hi : P.info? e with
  | none => simp [hi] at hz
  | some inf =>
    cases hzz : inf.zero with
    | none => simp [hi, hzz] at hz
    | some zv =>
      simp [hi, hzz] at hz
      have hrun : (execOp (ev ρ) ⟨d, .alloc e, ty, pos, af, g⟩).run P w = .ok (.value (.pointer (some ⟨w.heap.size, 0, none⟩))) (w.alloc (.cells cs.toArray e)) := by
        simp [execOp, Instr.alloc, zeroValue, typeInfo, program, Sem.run, hi, hzz, newVar, newRow, newObj, ← hz]
      unfold Does
      rw [hrun]
      exact dc_new (cs := cs.toArray) (by simpa using h)

/-- Whether a type is a struct or an array; how many cells it has. -/
def aggOf (P : Program) (e : TypeId) : Option (Bool × Nat) :=
  match P.underlying e, P.info? e with
  | some (.struct _), some i => some (true, i.size)
  | some (.array _ _), some i => some (true, i.size)
  | some _, some i => some (false, i.size)
  | _, _ => none
theorem aggOf_run {a : Bool} {n : Nat} (h : aggOf P e = some (a, n)) : (isAgg e).run P w = .ok a w ∧ (sizeOf e).run P w = .ok n w := by
  unfold aggOf at h
  cases hu : P.underlying e with
  | none => rw [hu] at h; simp at h
  | some dd =>
    cases hi : P.info? e with
    | none => rw [hu, hi] at h; cases dd <;> simp at h
    | some inf =>
      rw [hu, hi] at h
      cases dd <;> simp at h <;> obtain ⟨rfl, rfl⟩ := h <;> simp [isAgg, sizeOf, typeInfo, underlying, program, Sem.run, hu, hi]

theorem rw_cell {c : Value} (ha : aggOf P e = some (false, 1)) (hb : w.cell? ⟨b, o, none⟩ = some c) (hx : ev ρ x = .pointer (some ⟨b, o, none⟩)) : Rw P ⟨d, .load e x, ty, pos, af, g⟩ ρ w c := by
  unfold Rw
  simp only [execOp, Instr.loadAt, Instr.sureAddr, hx, Sem.run_bind, Sem.run_pure, Result.andThen_ok, loadVar, (aggOf_run (w := w) ha).1]
  simp [load, Sem.run, hb]
/-- A load out of a block. -/
theorem rw_bk {c : Value} {e0 : TypeId} (ha : aggOf P e = some (false, 1)) (hb : Bk w b cs e0) (hx : ev ρ x = .pointer (some ⟨b, o, none⟩)) (hc : cs[o]? = some c) : Rw P ⟨d, .load e x, ty, pos, af, g⟩ ρ w c :=
  rw_cell ha ((hb.cell o).trans hc) hx
theorem rw_bkA {n : Nat} {r : List Value} {e0 : TypeId} (ha : aggOf P e = some (true, n)) (hb : Bk w b cs e0) (hx : ev ρ x = .pointer (some ⟨b, o, none⟩)) (hc : (cs.drop o).take n = r) (hl : Nat.beq r.length n = true) :
    Rw P ⟨d, .load e x, ty, pos, af, g⟩ ρ w (.agg r.toArray) := by
  have hl := Nat.eq_of_beq_eq_true hl
  unfold Rw
  simp only [execOp, Instr.loadAt, Instr.sureAddr, hx, Sem.run_bind, Sem.run_pure, Result.andThen_ok, loadVar, (aggOf_run (w := w) ha).1, if_true, (aggOf_run (w := w) ha).2]
  rw [← hl, run_loadCells_list w _ r (fun j u hj => ?_)]
  · rfl
  · rw [addr_add, hb.cell, ← hj, ← hc, List.getElem?_take, List.getElem?_drop]
    have : j < r.length := (List.getElem?_eq_some_iff.1 hj).1
    rw [if_pos (by omega)]

theorem dc_store {vs r : List Value} {e0 : TypeId} {n : Nat} {a : Bool} (ha : aggOf P e = some (a, n)) (hb : Bk w b cs e0) (hx : ev ρ x = .pointer (some ⟨b, o, none⟩)) (hy : (ev ρ y).cells = vs.toArray)
    (h1 : ∀ c ∈ vs, c.oneCell' = true) (hn : Nat.beq vs.length n = true) (hfit : Nat.ble (o + n) cs.length = true) (hr : cs.take o ++ vs ++ cs.drop (o + n) = r)
    (h : ∀ w', Up (One b) w w' → w'.heap.size = w.heap.size → Bk w' b r e0 → kk undef w') : Does P ⟨d, .store e x y, ty, pos, af, g⟩ ρ w kk := by
  have hn := Nat.eq_of_beq_eq_true hn
  have hfit := Nat.le_of_ble_eq_true hfit
  have hst := run_storeCells_at P b o e0 vs 0 cs.toArray w hb (by simp; omega) h1
  have hrun : (execOp (ev ρ) ⟨d, .store e x y, ty, pos, af, g⟩).run P w = .ok .skip (w.setRow b r.toArray) := by
    simp only [Nat.add_zero, hn] at hst
    rw [hr] at hst
    simp only [execOp, Instr.storeAt, Instr.sureAddr, hx, Sem.run_bind, Sem.run_pure, Result.andThen_ok, storeVar, (aggOf_run (w := w) ha).2, hy]
    simp only [List.size_toArray, hn, ne_eq, not_true_eq_false, if_false]
    simpa using congrArg (fun r => Result.andThen r fun _ w' => Result.ok Next.skip w') hst
  unfold Does
  rw [hrun]
  exact h _ ⟨rfl, rfl, rfl, by simp, fun k _ hk => setRow_other w b k _ hk⟩ (by simp) (setRow_heap w b cs.toArray _ e0 _ hb)

/-! ### Structs -/

/-- A struct's fields: place, cells, whether it is one with parts; its zero. -/
def stOf (P : Program) (t : TypeId) : Option (List (Nat × Nat × Bool)) :=
  match P.underlying t with
  | some (.struct fs) => fs.toList.mapM fun f => (aggOf P f.type).map fun (a, n) => (f.offset, n, a)
  | _ => none

theorem mapM_get {α β : Type} (f : α → Option β) : ∀ (l : List α) (r : List β), l.mapM f = some r → ∀ i : Nat, r[i]? = (l[i]?).bind f
  | [], r, h, i => by simp at h; subst h; simp
  | a :: l, r, h, i => by
    rw [List.mapM_cons] at h
    simp only [bind, Option.bind_eq_some_iff] at h
    obtain ⟨b, hb, r', hr, he⟩ := h
    cases he
    cases i with
    | zero => simp [hb]
    | succ i => simpa using mapM_get f l r' hr i

theorem stOf_at {pl : List (Nat × Nat × Bool)} {f off n : Nat} {a : Bool} (h : stOf P t = some pl) (hf : pl[f]? = some (off, n, a)) :
    ∃ fs fd, P.underlying t = some (.struct fs) ∧ fs[f]? = some fd ∧ fd.offset = off ∧ aggOf P fd.type = some (a, n) := by
  unfold stOf at h
  cases hu : P.underlying t with
  | none => rw [hu] at h; cases h
  | some dd =>
    rw [hu] at h
    cases dd with
    | struct fs =>
      have := mapM_get _ _ _ h f
      rw [hf] at this
      have this := this.symm
      rw [Option.bind_eq_some_iff] at this
      obtain ⟨fd, h1, h2⟩ := this
      rw [Option.map_eq_some_iff] at h2
      obtain ⟨⟨a', n'⟩, h3, h4⟩ := h2
      cases h4
      exact ⟨fs, fd, rfl, by simpa using h1, rfl, h3⟩
    | _ => cases h

theorem rv_fieldAddr {pl : List (Nat × Nat × Bool)} {f off n : Nat} {a : Bool} (h : stOf P t = some pl) (hf : pl[f]? = some (off, n + 1, a)) (hx : ev ρ x = .pointer (some ⟨b, o, none⟩)) :
    Rv P ⟨d, .fieldAddr t x f, ty, pos, af, g⟩ ρ (.pointer (some ⟨b, o + off, none⟩)) := fun w => by
  obtain ⟨fs, fd, h1, h2, h3, h4⟩ := stOf_at h hf
  have hs := (aggOf_run (w := w) h4).2
  simp only [execOp, Instr.fieldAt, Instr.sureAddr, hx, underlying, program, Sem.run_bind, Sem.run, h1, h2, Result.andThen_ok, Sem.run_pure, fieldPlace, hs]
  rw [if_neg (by omega), Sem.run_pure, h3, addr_add]
  rfl

theorem rv_field {pl : List (Nat × Nat × Bool)} {f off : Nat} {c : Value} (h : stOf P t = some pl) (hf : pl[f]? = some (off, 1, false)) (hx : ev ρ x = .agg cs.toArray) (hc : cs[off]? = some c) :
    Rv P ⟨d, .field t x f, ty, pos, af, g⟩ ρ c := fun w => by
  obtain ⟨fs, fd, h1, h2, h3, h4⟩ := stOf_at h hf
  have ha := (aggOf_run (w := w) h4).1
  simp [execOp, Instr.field, hx, underlying, program, Sem.run, h1, h2, h3, part, ha, asAgg, hc]
theorem rv_fieldA {pl : List (Nat × Nat × Bool)} {f off n : Nat} {r : List Value} (h : stOf P t = some pl) (hf : pl[f]? = some (off, n, true)) (hx : ev ρ x = .agg cs.toArray) (hc : (cs.drop off).take n = r) :
    Rv P ⟨d, .field t x f, ty, pos, af, g⟩ ρ (.agg r.toArray) := fun w => by
  obtain ⟨fs, fd, h1, h2, h3, h4⟩ := stOf_at h hf
  have ha := (aggOf_run (w := w) h4).1
  have hn := (aggOf_run (w := w) h4).2
  simp [execOp, Instr.field, hx, underlying, program, Sem.run, h1, h2, h3, part, ha, hn, asAgg, ← hc]

theorem rv_nilCheck (hx : ev ρ x = .pointer (some ⟨b, o, none⟩)) : Rv P ⟨d, .nilCheck x, ty, pos, af, g⟩ ρ (.pointer (some ⟨b, o, none⟩)) := fun w => by
  simp [execOp, hx]

/-- A literal's cells, out of its parts' cells. -/
def fillL (place : Nat → Option (Nat × Nat)) : List Value → List (Nat × List Value) → Option (List Value)
  | cs, [] => some cs
  | cs, (i, vs) :: rest => match place i with
    | none => none
    | some (off, n) => bif Nat.beq vs.length n && Nat.ble (off + n) cs.length then fillL place (cs.take off ++ vs ++ cs.drop (off + n)) rest else none

theorem foldl_set (off : Nat) : ∀ (vs : List Value) (j : Nat) (cs : Array Value), off + j + vs.length ≤ cs.size →
    ((vs.zipIdx j).foldl (fun cs p => cs.setIfInBounds (off + p.2) p.1) cs).toList = cs.toList.take (off + j) ++ vs ++ cs.toList.drop (off + j + vs.length)
  | [], j, cs, _ => by simp
  | v :: vs, j, cs, h => by
    rw [List.zipIdx_cons, List.foldl_cons, foldl_set off vs (j + 1) _ (by simp at h ⊢; omega)]
    have e := list_seg_step cs.toList (off + j) v vs (by simp at h ⊢; omega)
    simpa [Array.toList_setIfInBounds, Nat.add_assoc] using e

theorem fill_of (place : Nat → Option (Nat × Nat)) : ∀ (parts : List (Nat × Value)) (cs r : List Value), fillL place cs (parts.map fun p => (p.1, p.2.cells.toList)) = some r →
    Instr.fill place cs.toArray parts = some r.toArray
  | [], cs, r, h => by simp [fillL] at h; subst h; rfl
  | (i, v) :: rest, cs, r, h => by
    simp only [List.map_cons, fillL] at h
    unfold Instr.fill
    cases hp : place i with
    | none => rw [hp] at h; cases h
    | some p =>
      obtain ⟨off, n⟩ := p
      rw [hp] at h
      dsimp only at h ⊢
      cases hc : (Nat.beq v.cells.toList.length n && Nat.ble (off + n) cs.length) with
      | false => rw [hc] at h; cases h
      | true =>
        rw [hc] at h
        simp only [cond_true] at h
        simp only [Bool.and_eq_true] at hc
        have h1 := Nat.eq_of_beq_eq_true hc.1
        have h2 := Nat.le_of_ble_eq_true hc.2
        have hs : v.cells.size = n := by simpa using h1
        rw [if_neg (by simp; omega)]
        have hf := foldl_set off v.cells.toList 0 cs.toArray (by simp; omega)
        have : (Array.foldl (fun cs x => match x with | (c, j) => cs.setIfInBounds (off + j) c) cs.toArray v.cells.zipIdx) = (cs.take off ++ v.cells.toList ++ cs.drop (off + n)).toArray := by
          apply Array.toList_inj.1
          rw [← Array.foldl_toList, Array.toList_zipIdx]
          have hf' := hf
          simp only [Nat.add_zero] at hf'
          rw [show (fun (cs : Array Value) (x : Value × Nat) => match x with | (c, j) => cs.setIfInBounds (off + j) c) = fun cs p => cs.setIfInBounds (off + p.2) p.1 from rfl, hf', h1]
        rw [this]
        exact fill_of place rest _ r h

theorem rv_build {pl : List (Nat × Nat × Bool)} {ps : List (Nat × Operand)} {zs r : List Value} (hp : stOf P t = some pl) (hz : zeroOf P t = some zs)
    (h : fillL (fun i => (pl[i]?).map fun p => (p.1, p.2.1)) zs (ps.map fun p => (p.1, (ev ρ p.2).cells.toList)) = some r) :
    Rv P ⟨d, .build t ps.toArray, ty, pos, af, g⟩ ρ (.agg r.toArray) := fun w => by
  have hb : P.built t (ps.map fun p => (p.1, ev ρ p.2)) = some r.toArray := by
    unfold zeroOf at hz
    cases hi : P.info? t with
    | none => simp [hi] at hz
    | some inf =>
      cases hzz : inf.zero with
      | none => simp [hi, hzz] at hz
      | some zv =>
        simp [hi, hzz] at hz
        unfold stOf at hp
        cases hu : P.underlying t with
        | none => rw [hu] at hp; cases hp
        | some dd =>
          rw [hu] at hp
          cases dd with
          | struct fs =>
            simp only at hp
            have hmap : fs.toList.mapM (fun f => (P.info? f.type).map fun i => (f.offset, i.size)) = some (pl.map fun p => (p.1, p.2.1)) := by
              have key : ∀ (l : List Field) (r : List (Nat × Nat × Bool)), l.mapM (fun f => (aggOf P f.type).map fun (a, n) => (f.offset, n, a)) = some r →
                  l.mapM (fun f => (P.info? f.type).map fun i => (f.offset, i.size)) = some (r.map fun p => (p.1, p.2.1)) := by
                intro l
                induction l with
                | nil => intro r h; simp at h; subst h; rfl
                | cons f l ih =>
                  intro r h
                  rw [List.mapM_cons] at h
                  simp only [bind, Option.bind_eq_some_iff] at h
                  obtain ⟨b, hb, r', hr, he⟩ := h
                  cases he
                  rw [Option.map_eq_some_iff] at hb
                  obtain ⟨⟨a, n⟩, h1, h2⟩ := hb
                  cases h2
                  have h3 : ∃ i, P.info? f.type = some i ∧ i.size = n := by
                    unfold aggOf at h1
                    cases hu' : P.underlying f.type with
                    | none => rw [hu'] at h1; simp at h1
                    | some d' =>
                      cases hi' : P.info? f.type with
                      | none => rw [hu', hi'] at h1; cases d' <;> simp at h1
                      | some i' => rw [hu', hi'] at h1; cases d' <;> simp at h1 <;> exact ⟨i', rfl, h1.2⟩
                  obtain ⟨i, h3, h4⟩ := h3
                  rw [List.mapM_cons]
                  simp [h3, h4, ih _ hr]
              exact key _ _ hp
            unfold Program.built
            simp only [hi, hu, hzz, hmap]
            rw [show zv.cells = zs.toArray from by rw [← hz]]
            rw [show (fun i => ((pl.map fun p => (p.1, p.2.1)).toArray)[i]?) = fun i => (pl[i]?).map fun p => (p.1, p.2.1) from by funext i; simp]
            exact fill_of _ _ _ _ (by rw [List.map_map]; exact h)
          | _ => cases hp
  have := run_build (P := P) w t ((ps.map fun p => (p.1, ev ρ p.2)).toArray) r.toArray (by simpa using hb)
  simp only [execOp, Sem.run_bind, List.map_toArray]
  have e1 : (ps.map fun x => match x with | (i, x) => (i, ev ρ x)) = ps.map fun p => (p.1, ev ρ p.2) := rfl
  rw [e1, this]
  rfl

end
end Go.Mg
