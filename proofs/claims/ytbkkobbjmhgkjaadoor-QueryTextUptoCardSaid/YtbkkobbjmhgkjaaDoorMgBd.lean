/- Texts that grow: a strings.Builder as an object; texts put together; a table that a call leans on. -/
import Derived.Test.YtbkkobbjmhgkjaaDoorMgNo
import Derived.Lib.Builder
import Derived.Lib.AppendStr
import Derived.Lib.UnsafeStr
import Derived.Lib.LaidTab
import Derived.Lib.Join
import Derived.Lib.ItoaNum
import Derived.OwnWalk
import Derived.Sort.Grow
import Derived.Deep.Draws
namespace Go.Mg
open Go
set_option linter.unusedVariables false

/-- A builder: its own address or none, and a row of bytes of its own. -/
def fBd (T e : TypeId) : Fk ByteArray where
  rep S w v x fp := ∃ b u a, v = .pointer (some ⟨b, 0, none⟩) ∧ (a = .pointer none ∨ a = .pointer (some ⟨b, 0, none⟩)) ∧ w.heap[b]? = some (.cells #[a, u] T (0, 0)) ∧
    w.ownsRow b e 1 u x.size (Lib.strCells x) ∧ u.ownBlock ≠ some b ∧ fp = b :: u.ownBlock.toList ∧ ∀ q ∈ fp, ¬ S q
  one h := by obtain ⟨b, u, a, rfl, _⟩ := h; rfl
  lt h := by
    obtain ⟨b, u, a, rfl, ha, hb, ho, hne, rfl, hS⟩ := h
    intro q hq
    refine ⟨?_, hS q hq⟩
    rcases List.mem_cons.1 hq with rfl | hq
    · exact (Array.getElem?_eq_some_iff.1 hb).1
    · exact (ho.lt q (by simpa using hq)).2
  mono h h1 h2 h3 h4 h5 := by
    obtain ⟨b, u, a, rfl, ha, hb, ho, hne, rfl, hS⟩ := h
    refine ⟨b, u, a, rfl, ha, (h4 b (by simp)).trans hb, ⟨ho.1, ?_⟩, hne, rfl, h2⟩
    rcases ho.2 with h | ⟨g, cap, cur, rfl, hbg, hg, hr⟩
    · exact .inl h
    · exact .inr ⟨g, cap, cur, rfl, hbg, (h4 g (by simp [Value.ownBlock])).trans hg, hr⟩

theorem nodup_row {b : Nat} {o : Option Nat} (h : o ≠ some b) : (b :: o.toList).Nodup := by
  cases o with
  | none => simp
  | some q => simp only [Option.toList, List.nodup_cons, List.mem_singleton, List.not_mem_nil, not_false_eq_true, List.nodup_nil, and_true]; exact fun e => h (by rw [e])

/-- A new builder. -/
theorem Bk.bd {S : Nat → Prop} {w : World} {b : Nat} {T e : TypeId} (h : Bk w b [.pointer none, .slice none 0 0] T) (hS : ¬ S b) : Mo (fBd T e) S w (.pointer (some ⟨b, 0, none⟩)) ByteArray.empty [b] :=
  ⟨⟨b, .slice none 0 0, .pointer none, rfl, .inl rfl, h, World.ownsRow_nil w b e 1, by simp [Value.ownBlock], rfl, fun q hq => by rw [List.mem_singleton.1 hq]; exact hS⟩, by simp⟩

/-- A text behind a text, where memory bears it. -/
def bw_ (x s : ByteArray) : Option ByteArray := if x.size + s.size ≤ 140737488355328 then some (x ++ s) else none
def sadd_ (x s : ByteArray) : Option ByteArray := if x.size + s.size ≤ 9223372036854775807 then some (x ++ s) else none
theorem bw_some {x s r : ByteArray} (h : bw_ x s = some r) : x.size + s.size ≤ 140737488355328 ∧ r = x ++ s := by
  unfold bw_ at h
  split at h
  · exact ⟨by assumption, (Option.some.inj h).symm⟩
  · cases h
theorem sadd_some {x s r : ByteArray} (h : sadd_ x s = some r) : x.size + s.size ≤ 9223372036854775807 ∧ r = x ++ s := by
  unfold sadd_ at h
  split at h
  · exact ⟨by assumption, (Option.some.inj h).symm⟩
  · cases h
theorem rv_sadd' {P : Program} {ρ : En} {d : Option Tmp} {ty : TypeId} {pos : String} {af : Array Edge} {g : Option (Nat × Bool)} {x y : Operand} {t t2 : TypeId} {s u r : ByteArray}
    (hx : ev ρ x = .string s) (hy : ev ρ y = .string u) (h : sadd_ s u = some r) : Rv P ⟨d, .binOp .add t x y t2, ty, pos, af, g⟩ ρ (.string r) := by
  obtain ⟨hb, rfl⟩ := sadd_some h
  exact rv_sadd hx hy hb

theorem strCells_append (x s : ByteArray) : Lib.strCells (x ++ s) = Lib.strCells x ++ Lib.strCells s := by
  simp [Lib.strCells, ByteArray.data_append]

/-- A text's bytes behind an own row of bytes; where the row lies then. -/
theorem run_app_str {P : Program} {w : World} {base : Nat} {t u ty e : TypeId} {i : TypeInfo} (ht : P.underlying t = some (.slice e)) (hu : P.underlying u = some .string) (hi : P.info? e = some i) (hz : i.zero = some (.int .u8 0))
    (hsize : i.size = 1) (hby : i.bytes = 1) {v : Value} {n : Nat} {xs : List Value} (hown : w.ownsRow base e 1 v n xs) (s : ByteArray) (hb : n + s.size ≤ 140737488355328) (hbase : base ≤ w.heap.size) :
    ∃ v' w', (Builtin.append_ #[t, u] ty #[v, .string s]).run P w = .ok v' w' ∧ w'.ownsRow base e 1 v' (n + s.size) (xs ++ Lib.strCells s) ∧ w.grownBy w' v.ownBlock ∧
      ∀ q, v'.ownBlock = some q → v.ownBlock = some q ∨ w.heap.size ≤ q := by
  have hm : n + s.size ≤ maxLen := by unfold maxLen; omega
  obtain ⟨v', w', hr, h1, h2, _⟩ := Lib.run_append_own_string w base t u ty e i ht hu hi hz hsize hby v n xs hown s hm hb hbase
  refine ⟨v', w', hr, h1, h2, fun q hq => ?_⟩
  have hxl : xs.length = n := by simpa using hown.1
  rcases hown.2 with ⟨rfl, rfl⟩ | ⟨g, cap, cur, rfl, hbg, hg, hnc, hcm, hcs, htake⟩
  · have hx : xs = [] := List.eq_nil_of_length_eq_zero hxl
    subst hx
    obtain ⟨v2, w2, hr2, h3, _⟩ := Lib.run_append_own_string w w.heap.size t u ty e i ht hu hi hz hsize hby (.slice none 0 0) 0 [] (World.ownsRow_nil w _ e 1) s hm hb (Nat.le_refl _)
    rw [hr] at hr2
    cases hr2
    exact .inr (h3.lt q hq).1
  · by_cases hroom : n + s.size ≤ cap
    · have hcs' : cur.size = cap := by simpa using hcs
      have hr2 := Lib.run_append_room_string (P := P) w t u ty e i ht hu hi hsize g n cap cur hg s hroom (by omega)
      rw [hr] at hr2
      cases hr2
      exact .inl hq
    · have holds : ∀ j u, xs[j]? = some u → w.cell? ((⟨g, 0, none⟩ : Addr).add j) = some u := hown.cells (g := g) rfl
      have hr2 := Lib.run_append_grow_string (P := P) w t u ty e i (.int .u8 0) ht hu hi hz ⟨g, 0, none⟩ n cap xs (by rw [hsize]; simpa using hxl) holds s (by omega) (by omega) (by rw [hby]; exact growslice_fits (by omega) (by omega))
      rw [hr] at hr2
      cases hr2
      simp only [Value.ownBlock, Option.some.injEq] at hq
      exact .inr (by omega)

theorem wpList_app_str {P : Program} {w : World} {base : Nat} {ops : Array Oper} {rest : List Oper} {o : Oper} {a : Act} {Q : Exit → Act → World → Prop} (hgd : o.guard = none) (sl x : Operand) (t u : TypeId)
    (ho : o.op = .call { callee := .builtin .append, args := #[sl, x], argTypes := #[t, u] }) {e : TypeId} {i : TypeInfo} (ht : P.underlying t = some (.slice e)) (hu : P.underlying u = some .string) (hi : P.info? e = some i) (hz : i.zero = some (.int .u8 0))
    (hsize : i.size = 1) (hby : i.bytes = 1) {v : Value} {n : Nat} {xs : List Value} (hs : a.eval sl = v) (hown : w.ownsRow base e 1 v n xs) (s : ByteArray) (hx : a.eval x = .string s)
    (hb : n + s.size ≤ 140737488355328) (hbase : base ≤ w.heap.size)
    (h : ∀ v' w', w'.ownsRow base e 1 v' (n + s.size) (xs ++ Lib.strCells s) → w.grownBy w' v.ownBlock → (∀ q, v'.ownBlock = some q → v.ownBlock = some q ∨ w.heap.size ≤ q) → wpList P ops Q rest (a.put o.dst v') w') : wpList P ops Q (o :: rest) a w := by
  refine wpList_plain hgd fun K hK => ?_
  obtain ⟨v', w', hr, h2, h3, h4⟩ := run_app_str (P := P) (w := w) (ty := o.type) ht hu hi hz hsize hby hown s hb hbase
  unfold Oper.wp execOp
  simp only [ho, resolve, invoke, builtin, Sem.run_bind, Sem.run_pure, Result.andThen_ok, List.map_toArray, List.map_cons, List.map_nil, hs, hx, hr]
  exact hK _ _ (h v' w' h2 h3 h4)

/-! ### A table that a call leans on -/
def Tb (P : Program) (n : String) (k : IntKind) (zs : List Int) (S : Nat → Prop) (w : World) : Prop := ∃ g, S g ∧ g < w.heap.size ∧ P.globalNamed n = some g ∧ Lib.TabIs P w n k zs
section
variable {P : Program} {n : String} {k : IntKind} {zs : List Int} {S S1 F : Nat → Prop} {w w1 : World} {u : Value}
theorem Tb.up (h : Tb P n k zs S w) (hu : Up F w w1) (hS : ∀ b, S b → S1 b) (hSF : ∀ b, S b → ¬ F b) : Tb P n k zs S1 w1 := by
  obtain ⟨g, h1, h2, h3, h4⟩ := h
  refine ⟨g, hS g h1, Nat.lt_of_lt_of_le h2 hu.size, h3, ?_⟩
  unfold Lib.TabIs World.var? at h4 ⊢
  rw [h3, Option.bind_some] at h4 ⊢
  rw [hu.block g h2 (hSF g h1)]
  exact h4
theorem Tb.nw (h : Tb P n k zs S w) (hu : Up No w w1) : Tb P n k zs S w1 := h.up hu (fun _ h => h) fun _ _ h => h
theorem Tb.cx (h : Tb P n k zs S w) (c : Cx No S w S1 w1) : Tb P n k zs S1 w1 := h.up c.up c.ge.le fun _ _ h => h
theorem Tb.wr (h : Tb P n k zs S w) (hu : Up (Blk u) w w1) (hn : ∀ b, Blk u b → ¬ S b) : Tb P n k zs S w1 := h.up hu (fun _ h => h) fun b hb hf => hn b hf hb
theorem Tb.cf (h : Tb P n k zs S w) (c : Cx F S w S1 w1) (hF : ∀ b, F b → ¬ S b) : Tb P n k zs S1 w1 := h.up c.up c.ge.le fun b hb hf => hF b hf hb
theorem Tb.or {T : Nat → Prop} (h : Tb P n k zs S w) : Tb P n k zs (Or S T) w := h.up (Up.refl No _) (fun _ h => .inl h) fun _ _ h => h
end
/-- What a call of the library leaves that makes new blocks alone. -/
theorem Up.grow {w : World} (k : Nat) (os : Array Obj) : Up No w (Go.Sort.grow (w.drewN k) os) :=
  ⟨rfl, rfl, rfl, by simp [Go.Sort.grow, World.drewN], fun q hq _ => by simp only [Go.Sort.grow, World.drewN]; exact Array.getElem?_append_left hq⟩
/-- Back to the set of blocks that a call began with: what it made meanwhile is told no more. -/
theorem Cx.back {F S S1 : Nat → Prop} {w w1 w2 : World} {b : Nat} (hS : Sb S w) (C : Cx F S w S1 w1) (h : Go.RowKit.Below b w1 w2) (hb : w.heap.size ≤ b) : Cx F S w S w2 := by
  refine ⟨⟨h.os.trans C.up.os, h.tape.trans C.up.tape, h.output.trans C.up.output, Nat.le_trans C.up.size h.size, fun q hq hF => ?_⟩, Ge.refl _ _, fun q hq => Nat.lt_of_lt_of_le (hS q hq) (Nat.le_trans C.up.size h.size)⟩
  exact (h.block q (by omega)).trans (C.up.block q hq hF)

/-! ### Texts put together -/
def join_ (xs : List ByteArray) (s : ByteArray) : Option ByteArray :=
  if xs.length ≤ 140737488355328 ∧ (Lib.join (xs.map (·.data.toList)) s.data.toList).length ≤ 140737488355328 then some ⟨(Lib.join (xs.map (·.data.toList)) s.data.toList).toArray⟩ else none
/-- A number as text. -/
def itoa_ (a : Int) : Option ByteArray := if -9223372036854775808 ≤ a ∧ a ≤ 9223372036854775807 then some ⟨(Lib.itoa a).toArray⟩ else none
end Go.Mg
