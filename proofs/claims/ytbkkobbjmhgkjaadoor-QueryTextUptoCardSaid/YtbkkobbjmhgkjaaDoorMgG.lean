/- Slices of the call's own: literals, append, stores; what a walk carries along. -/
import Derived.Test.YtbkkobbjmhgkjaaDoorMgF
namespace Go.Mg
open Go
variable {P : Program} {N : Nat} {Q : Ps} {ρ : En} {w : World} {ops : Array Oper} {K : En → World → Prop} {l : List Oper}
variable {d : Option Tmp} {ty : TypeId} {pos : String} {af : Array Edge} {g : Option (Nat × Bool)}
variable {α : Type} {k : Kd α} {S : Nat → Prop} {v u : Value} {xs ys : List α} {kk : Value → World → Prop}

/-- S is of blocks that are there. -/
def Sb (S : Nat → Prop) (w : World) : Prop := ∀ b, S b → b < w.heap.size
theorem Sb.up {F : Nat → Prop} {w' : World} (h : Sb S w) (hu : Up F w w') : Sb S w' := fun b hb => Nat.lt_of_lt_of_le (h b hb) hu.size

/-- From (S0, w0) to (S, w): blocks of F were written, and new ones; S grew by new blocks. -/
structure Cx (F S0 : Nat → Prop) (w0 : World) (S : Nat → Prop) (w : World) : Prop where
  up : Up F w0 w
  ge : Ge S0 S w0.heap.size
  sb : Sb S w

theorem Cx.refl {F : Nat → Prop} (h : Sb S w) : Cx F S w S w := ⟨Up.refl _ _, Ge.refl _ _, h⟩
theorem Cx.then {F G S0 S' : Nat → Prop} {w0 w' : World} (h : Cx F S0 w0 S w) (k : Cx G S w S' w') (hG : ∀ b, b < w0.heap.size → G b → F b) : Cx F S0 w0 S' w' :=
  ⟨h.up.then k.up hG, h.ge.trans k.ge h.up.size, k.sb⟩
theorem Cx.trans {F S0 S' : Nat → Prop} {w0 w' : World} (h : Cx F S0 w0 S w) (k : Cx No S w S' w') : Cx F S0 w0 S' w' := h.then k fun _ _ hf => hf.elim
theorem Cx.upd {F G S0 : Nat → Prop} {w0 w' : World} (h : Cx F S0 w0 S w) (k : Up G w w') (hG : ∀ b, b < w0.heap.size → G b → F b) : Cx F S0 w0 S w' :=
  ⟨h.up.then k hG, h.ge, h.sb.up k⟩
theorem Cx.new {F S0 : Nat → Prop} {w0 w' : World} (h : Cx F S0 w0 S w) (k : Up No w w') : Cx F S0 w0 S w' := h.upd k fun _ _ hf => hf.elim
theorem Cx.sealB {F S0 T : Nat → Prop} {w0 : World} (h : Cx F S0 w0 S w) (hT : ∀ b, T b → w0.heap.size ≤ b ∧ b < w.heap.size) : Cx F S0 w0 (Or S T) w :=
  ⟨h.up, h.ge.add fun b hb => (hT b hb).1, fun b hb => hb.elim (h.sb b) fun hb => (hT b hb).2⟩
theorem Cx.no {F S0 : Nat → Prop} {w0 : World} (h : Cx No S0 w0 S w) : Cx F S0 w0 S w := ⟨h.up.no, h.ge, h.sb⟩
theorem Cx.f {F G S0 : Nat → Prop} {w0 : World} (h : Cx F S0 w0 S w) (hG : ∀ b, b < w0.heap.size → F b → G b) : Cx G S0 w0 S w := ⟨h.up.mono hG, h.ge, h.sb⟩

theorem Sl.cx {S' : Nat → Prop} {w' : World} {β : Type} {kb : Kd β} {x : β} (h : Sl kb S w v x) (c : Cx No S w S' w') : Sl kb S' w' v x := h.up c.ge.le c.up.sm0
theorem Sl.nw {w' : World} {β : Type} {kb : Kd β} {x : β} (h : Sl kb S w v x) (c : Up No w w') : Sl kb S w' v x := h.to c.sm0
/-- Behind a write to a block that is none of S. -/
theorem Sl.wr {F : Nat → Prop} {w' : World} {β : Type} {kb : Kd β} {x : β} (h : Sl kb S w v x) (c : Up F w w') (hF : ∀ b, F b → ¬ S b) : Sl kb S w' v x := h.to (c.sm fun b hb _ hf => hF b hf hb)

theorem Ow.cx {e : TypeId} {base : Nat} {S' : Nat → Prop} {w' : World} (h : Ow k e S base w v xs) (c : Cx No S w S' w') : Ow k e S' base w' v xs :=
  h.up c.up c.ge.le c.ge.ge (fun _ _ _ hf => hf) (fun _ _ hf => hf)
theorem Ow.nw {e : TypeId} {base : Nat} {w' : World} (h : Ow k e S base w v xs) (c : Up No w w') : Ow k e S base w' v xs := h.to c (fun _ _ _ hf => hf) (fun _ _ hf => hf)
/-- Behind a write to another's block. -/
theorem Ow.wr {e : TypeId} {base : Nat} {F : Nat → Prop} {w' : World} (h : Ow k e S base w v xs) (c : Up F w w') (hF : ∀ b, F b → ¬ S b) (hd : ∀ b, Blk v b → ¬ F b) : Ow k e S base w' v xs :=
  h.to c (fun b hb _ hf => hF b hf hb) hd

/-- Elements that are to be appended. -/
def Src (k : Kd α) (S : Nat → Prop) (w : World) (u : Value) (ys : List α) : Prop :=
  ∃ A c, u = .slice A ys.length c ∧ (ys = [] ∨ ∃ b off, A = some ⟨b, off, none⟩ ∧ Row k S w b off ys)
theorem Sl.src {S' : Nat → Prop} (h : Sl (kSl k) S w u ys) (hS : ∀ b, S b → S' b) : Src k S' w u ys := by
  obtain ⟨A, c, h1, _, _, h4⟩ := sl_slice.1 h
  refine ⟨A, c, h1, ?_⟩
  rcases h4 with h4 | ⟨b, off, hA, _, hr⟩
  · exact .inl h4
  · exact .inr ⟨b, off, hA, hr.to hS (Sm.refl _ _) fun _ => rfl⟩
theorem Chk.row {cs : List Value} {b off : Nat} (h : Chk k S w cs xs) (hc : ∀ j u, cs[j]? = some u → w.cell? ⟨b, off + j, none⟩ = some u) : Row k S w b off xs := fun i x hx => by
  obtain ⟨c, h1, h2⟩ := h.at i x hx
  exact ⟨c, h1, fun j u hj => by rw [Nat.add_assoc]; exact hc _ _ (h2 j u hj)⟩
theorem Ow.src {e : TypeId} {base : Nat} (h : Ow k e S base w u ys) : Src k S w u ys := by
  obtain ⟨cs, h1, h2, _, _⟩ := h
  rcases h1.2 with ⟨rfl, hn⟩ | ⟨g, cap, cur, rfl, _⟩
  · have : ys = [] := List.eq_nil_of_length_eq_zero hn
    subst this
    exact ⟨none, 0, rfl, .inl rfl⟩
  · exact ⟨_, cap, rfl, .inr ⟨g, 0, rfl, h2.row fun j u hj => by rw [Nat.zero_add]; exact ownsRow_cell h1 j u hj⟩⟩

theorem run_append_none {t e : TypeId} {i : TypeInfo} {base n size c : Nat} {cells : List Value} (ht : P.underlying t = some (.slice e)) (hi : P.info? e = some i) (h : w.ownsRow base e size v n cells) :
    (Builtin.append_ #[t, t] ty #[v, .slice none 0 c]).run P w = .ok v w := by
  rcases h.2 with ⟨rfl, rfl⟩ | ⟨g, cap, cur, rfl, _, _, hnc, _⟩
  · simp [Builtin.append_, run_underlying ht, sizeOf, typeInfo, hi, Builtin.lenOf, Builtin.firstCells]
  · simp [Builtin.append_, run_underlying ht, sizeOf, typeInfo, hi, Builtin.lenOf, Builtin.firstCells, hnc, storeCells]

/-- The block of what append tells: the old one, or a new one. -/
theorem append_block {t ty e : TypeId} {i : TypeInfo} {z : Value} {size bytes base n m c : Nat} {v v' : Value} {w w' : World} {xs news : List Value} {a : Addr} {b : Nat}
    (ht : P.underlying t = some (.slice e)) (hi : P.info? e = some i) (hz : i.zero = some z) (hsize : i.size = size) (hby : i.bytes = bytes)
    (hown : w.ownsRow base e size v n xs) (hl : news.length = m * size) (hnews : ∀ j u, news[j]? = some u → w.cell? (a.add j) = some u) (h1 : ∀ u ∈ news, u.oneCell' = true)
    (h63 : n + m ≤ maxLen) (hbytes : (n + m) * bytes ≤ 140737488355328)
    (hr : (Builtin.append_ #[t, t] ty #[v, .slice (some a) m c]).run P w = .ok v' w') (hb : v'.ownBlock = some b) (hne : ¬ v.ownBlock = some b) (hlt : b < w.heap.size) : False := by
  subst hsize hby
  have hsmall : n + m ≤ 9223372036854775807 := by simp only [maxLen] at h63; omega
  rcases hown.2 with ⟨rfl, rfl⟩ | ⟨g, cap, cur, rfl, hbg, hg, hnc, hcm, hcs, htake⟩
  · by_cases hm : m = 0
    · subst hm
      have hn : news = [] := List.eq_nil_of_length_eq_zero (by simpa using hl)
      subst hn
      have h2 : (Builtin.append_ #[t, t] ty #[.slice none 0 0, .slice (some a) 0 c]).run P w = .ok (.slice none 0 0) w := by
        simp [Builtin.append_, run_underlying ht, sizeOf, typeInfo, hi, Builtin.lenOf, Builtin.firstCells, loadCells, loadCellsFrom]
      rw [h2] at hr
      cases hr
      simp [Value.ownBlock] at hb
    · have h2 := run_append_nil (P := P) w t ty e i z ht hi hz a m c news hl hnews (by omega) (by omega) (by have hb := hbytes; simp only [Nat.zero_add] at hb; omega)
      rw [h2] at hr
      cases hr
      simp [Value.ownBlock] at hb
      omega
  · by_cases hroom : n + m ≤ cap
    · have hfit : n * i.size + news.length ≤ cur.size := by rw [hl, hcs, ← Nat.add_mul]; exact Nat.mul_le_mul_right _ hroom
      have h2 := run_append_room (P := P) w t ty e i ht hi g n cap cur hg a m c news hl hnews h1 hroom hfit
      rw [h2] at hr
      cases hr
      simp [Value.ownBlock] at hb hne
      exact hne hb
    · have holds : ∀ j u, xs[j]? = some u → w.cell? ((⟨g, 0, none⟩ : Addr).add j) = some u := World.ownsRow.cells (base := base) (e := e) (size := i.size) (n := n) ⟨hown.1, hown.2⟩ (g := g) rfl
      have h2 := run_append_grow (P := P) w t ty e i z ht hi hz ⟨g, 0, none⟩ n cap xs hown.1 holds a m c news hl hnews (by omega) (by omega) (growslice_fits (by omega) hbytes)
      rw [h2] at hr
      cases hr
      simp [Value.ownBlock] at hb
      omega

section
variable {x y z : Operand} {t t2 e by_ : TypeId} {ik : IntKind} {i : Int} {b o : Nat} {cs : List Value} {base : Nat}

/-- A longer list, where memory bears it. -/
def app_ (by_ : Nat) (xs ys : List α) : Option (List α) := if (xs.length + ys.length) * by_ ≤ lim then some (xs ++ ys) else none

theorem dc_append {zs : List α} (el : El P k t e by_) (hby : 0 < by_) (ho : Ow k e S base w v xs) (hs : Src k S w u ys) (hx : ev ρ x = v) (hy : ev ρ y = u) (ha : app_ by_ xs ys = some zs) (hbase : base ≤ w.heap.size) (hS : Sb S w)
    (h : ∀ v' w', Ow k e S base w' v' zs → Up (Blk v) w w' → (∀ b, Blk v' b → Blk v b ∨ w.heap.size ≤ b) → kk v' w') :
    Does P ⟨d, .call { callee := .builtin .append, args := #[x, y], argTypes := #[t, t] }, ty, pos, af, g⟩ ρ w kk := by
  unfold app_ at ha
  split at ha
  case isFalse => cases ha
  rename_i hbytes
  cases ha
  have hlen : xs.length + ys.length ≤ Mg.lim := Nat.le_trans (Nat.le_mul_of_pos_right _ hby) hbytes
  obtain ⟨cs, h1, h2, h3, h4⟩ := ho
  obtain ⟨A, c, rfl, hrow⟩ := hs
  obtain ⟨inf, zv, hi, hz, hsz, hby', hzs⟩ := el.hi
  have hpos := el.hs
  have fin : ∀ v' w' (ds : List Value), (Builtin.append_ #[t, t] ty #[v, .slice A ys.length c]).run P w = .ok v' w' → Chk k S w ds ys → w'.ownsRow base e k.sz v' (xs.length + ys.length) (cs ++ ds) →
      w.grownBy w' v.ownBlock → (∀ b, v'.ownBlock = some b → v.ownBlock = some b ∨ w.heap.size ≤ b) → Does P ⟨d, .call { callee := .builtin .append, args := #[x, y], argTypes := #[t, t] }, ty, pos, af, g⟩ ρ w kk := by
    intro v' w' ds hr hds hown hgr hblk
    have hup : Up (Blk v) w w' := ⟨hgr.os, hgr.tape, hgr.output, hgr.size, fun k hk hn => hgr.block k hk (fun e => hn e.symm)⟩
    have hsm : Sm S w w' := hup.sm fun b hb _ hf => h4 b hf hb
    have hown' : Ow k e S base w' v' (xs ++ ys) := ⟨cs ++ ds, by rw [List.length_append]; exact hown, (h2.append hds).to (fun _ h => h) hsm, by rw [List.length_append]; exact hlen, fun b hb hs => by
      rcases hblk b hb with hb | hb
      · exact h4 b hb hs
      · have := hS b hs; omega⟩
    have hrun : (execOp (ev ρ) ⟨d, .call { callee := .builtin .append, args := #[x, y], argTypes := #[t, t] }, ty, pos, af, g⟩).run P w = .ok (.value v') w' := by
      simp only [execOp, resolve, invoke, builtin, Sem.run_bind, Sem.run_pure, Result.andThen_ok, List.map_toArray, List.map_cons, List.map_nil, hx, hy, hr]
    unfold Does
    rw [hrun]
    exact h _ _ hown' hup hblk
  have hsame : ∀ b, v.ownBlock = some b → v.ownBlock = some b ∨ w.heap.size ≤ b := fun b hb => .inl hb
  cases A with
  | none =>
    have hy0 : ys = [] := hrow.elim (fun h => h) fun ⟨b, off, hA, _⟩ => by cases hA
    subst hy0
    refine fin v w [] (run_append_none el.ht hi h1) .nil (by simpa using h1) ⟨rfl, rfl, rfl, Nat.le_refl _, fun _ _ _ => rfl⟩ hsame
  | some ad =>
    have hnews : ∃ ds, Chk k S w ds ys ∧ ∀ j u, ds[j]? = some u → w.cell? (ad.add j) = some u := by
      rcases hrow with rfl | ⟨b, off, hA, hr⟩
      · exact ⟨[], .nil, fun j u hj => by simp at hj⟩
      · cases hA
        obtain ⟨ds, hd1, hd2⟩ := hr.chk
        exact ⟨ds, hd1, fun j u hj => by rw [addr_add]; exact hd2 j u hj⟩
    obtain ⟨ds, hd1, hd2⟩ := hnews
    have hmax : xs.length + ys.length ≤ maxLen := by unfold Mg.lim at hlen; unfold maxLen; omega
    obtain ⟨v', w', hr, hown, hgr, _⟩ := run_append_own (P := P) w base t ty e inf zv k.sz by_ el.ht hi hz hsz hby' hzs hpos v xs.length cs h1 ad ys.length c ds hd1.len hd2 hd1.one hmax hbytes hbase
    refine fin v' w' ds hr hd1 hown hgr fun b hb => ?_
    -- its block: the same, or a new one
    by_cases hvb : v.ownBlock = some b
    · exact .inl hvb
    · right
      have hb' := hown.lt b hb
      rcases Nat.lt_or_ge b w.heap.size with hlt | hge
      · exfalso
        exact append_block el.ht hi hz hsz hby' h1 hd1.len hd2 hd1.one hmax hbytes hr hb hvb hlt
      · exact hge

/-- Values that stand for data, one each. -/
inductive Sls (k : Kd α) (S : Nat → Prop) (w : World) : List Value → List α → Prop
  | nil : Sls k S w [] []
  | cons {v vs x xs} : Sl k S w v x → Sls k S w vs xs → Sls k S w (v :: vs) (x :: xs)

theorem Sls.chk {vs : List Value} (h : Sls k S w vs xs) : Chk k S w (vs.map (·.cells.toList)).flatten xs := by
  induction h with
  | nil => exact .nil
  | cons h1 _ ih =>
    obtain ⟨cs, rfl, hr⟩ := h1
    rw [List.map_cons, List.flatten_cons, k.val_cells hr]
    exact .cons hr ih
theorem Sls.len {vs : List Value} (h : Sls k S w vs xs) : vs.length = xs.length := by
  induction h with
  | nil => rfl
  | cons _ _ ih => simp [ih]
theorem Sls.sizes {vs : List Value} (h : Sls k S w vs xs) : ∀ v ∈ vs, v.cells.size = k.sz := by
  induction h with
  | nil => simp
  | cons h1 _ ih =>
    intro v hv
    rcases List.mem_cons.1 hv with rfl | hv
    · obtain ⟨cs, rfl, hr⟩ := h1
      rw [k.val_cells hr]
      simpa using k.len hr
    · exact ih v hv

theorem fillL_seq (sz : Nat) : ∀ (vs : List Value) (j : Nat) (cs : List Value), (∀ v ∈ vs, v.cells.size = sz) → (j + vs.length) * sz = cs.length →
    fillL (fun i => some (i * sz, sz)) cs ((vs.zipIdx j).map fun p => (p.2, p.1.cells.toList)) = some (cs.take (j * sz) ++ (vs.map (·.cells.toList)).flatten)
  | [], j, cs, _, hl => by
    simp only [List.length_nil, Nat.add_zero] at hl
    simp [fillL, hl]
  | v :: vs, j, cs, hv, hl => by
    have h1 := hv v (List.mem_cons_self ..)
    simp only [List.length_cons] at hl
    have hmul : (j + (vs.length + 1)) * sz = j * sz + sz + vs.length * sz := by rw [Nat.add_mul, Nat.add_mul]; omega
    rw [hmul] at hl
    have hlen : (cs.take (j * sz) ++ v.cells.toList ++ cs.drop (j * sz + sz)).length = cs.length := by
      simp only [List.length_append, List.length_take, List.length_drop, Array.length_toList, h1]; omega
    rw [List.zipIdx_cons, List.map_cons]
    unfold fillL
    dsimp only
    have hc : (Nat.beq v.cells.toList.length sz && Nat.ble (j * sz + sz) cs.length) = true := by
      rw [Array.length_toList, h1, Nat.beq_refl, Bool.true_and]
      exact Nat.ble_eq_true_of_le (by omega)
    rw [hc, cond_true, fillL_seq sz vs (j + 1) _ (fun u hu => hv u (List.mem_cons_of_mem _ hu)) (by rw [hlen, Nat.add_mul, Nat.succ_mul]; omega)]
    have ht : (cs.take (j * sz) ++ v.cells.toList ++ cs.drop (j * sz + sz)).take ((j + 1) * sz) = cs.take (j * sz) ++ v.cells.toList := by
      rw [List.take_append_of_le_length (by simp only [List.length_append, List.length_take, Array.length_toList, h1, Nat.succ_mul]; omega)]
      rw [List.take_of_length_le (by simp only [List.length_append, List.length_take, Array.length_toList, h1, Nat.succ_mul]; omega)]
    rw [ht, List.map_cons, List.flatten_cons, List.append_assoc]

/-- A slice literal, every place written, in order. -/
theorem dc_lit {ps : List (Nat × Operand)} {vs : List Value} {n : Nat} (el : El P k t e by_) (hv : ps.map (fun p => (p.1, ev ρ p.2)) = vs.zipIdx.map fun p => (p.2, p.1))
    (hn : n = vs.length) (hsl : Sls k S w vs xs) (hsmall : vs.length * k.sz ≤ 16777216) (hbase : base ≤ w.heap.size) (hS : Sb S w)
    (h : ∀ u w', Ow k e S base w' u xs → (∀ b, Blk u b → w.heap.size ≤ b) → Up No w w' → kk u w') :
    Does P ⟨d, .buildSlice t n ps.toArray, ty, pos, af, g⟩ ρ w kk := by
  subst hn
  obtain ⟨inf, zv, hi, hz, hsz, hby', hzs⟩ := el.hi
  have hpos := el.hs
  have hxl := hsl.len
  have hflat := hsl.chk
  have hfill : ∀ Z : Array Value, Instr.fill (fun i => some (i * k.sz, k.sz)) ((Array.range (vs.length * k.sz)).map fun x => Z[x % Z.size]!) (ps.map fun p => (p.1, ev ρ p.2)) = some ((vs.map (·.cells.toList)).flatten).toArray := by
    intro Z
    have h1 := fillL_seq k.sz vs 0 ((Array.range (vs.length * k.sz)).map fun x => Z[x % Z.size]!).toList hsl.sizes (by simp)
    rw [Nat.zero_mul, List.take_zero, List.nil_append] at h1
    have h2 := fill_of (fun i => some (i * k.sz, k.sz)) (ps.map fun p => (p.1, ev ρ p.2)) _ _ (by rw [hv, List.map_map]; exact h1)
    rw [Array.toArray_toList] at h2
    exact h2
  have hrun : (execOp (ev ρ) ⟨d, .buildSlice t vs.length ps.toArray, ty, pos, af, g⟩).run P w =
      .ok (.value (.slice (some ⟨w.heap.size, 0, none⟩) vs.length vs.length)) (w.alloc (.cells ((vs.map (·.cells.toList)).flatten).toArray e)) := by
    have hns : ¬ vs.length * k.sz > 2 ^ 24 := by simp only [show (2 : Nat) ^ 24 = 16777216 from by decide]; omega
    have hzv : (zeroValue e).run P w = .ok zv w := by simp [zeroValue, typeInfo, program, Sem.run, hi, hz]
    have hsz' : (sizeOf e).run P w = .ok k.sz w := el.toTy.size
    simp only [execOp, Instr.buildSlice, Sem.run_bind, run_underlying el.ht, Result.andThen_ok, hsz', if_neg hns, List.map_toArray]
    by_cases h0 : vs.length * k.sz = 0
    · simp only [if_pos h0, Sem.run_bind, Result.andThen_ok, Sem.run_pure, hfill]
      simp [newRow, newObj, Sem.run]
    · simp only [if_neg h0, Sem.run_bind, hzv, Result.andThen_ok, Sem.run_pure, hfill]
      simp [newRow, newObj, Sem.run]
  unfold Does
  rw [hrun]
  have hup : Up No w (w.alloc (.cells ((vs.map (·.cells.toList)).flatten).toArray e)) := Up.alloc _ _ _
  refine h _ _ ⟨_, ?_, hflat.to (fun _ h => h) hup.sm0, ?_, fun b hb hs => ?_⟩ (fun b hb => ?_) hup
  · rw [hxl]
    refine ⟨by rw [hflat.len], .inr ⟨w.heap.size, xs.length, _, rfl, hbase, heap_alloc_new _ _, Nat.le_refl _, ?_, ?_, ?_⟩⟩
    · unfold maxLen
      have := Nat.le_mul_of_pos_right xs.length hpos
      rw [hxl] at hsmall; omega
    · simpa using hflat.len
    · rw [← hflat.len]; exact List.take_length
  · unfold Mg.lim
    have := Nat.le_mul_of_pos_right xs.length hpos
    rw [hxl] at hsmall; omega
  · simp only [Value.ownBlock, Option.some.injEq] at hb
    have := hS b hs; omega
  · simp only [Blk, Value.ownBlock, Option.some.injEq] at hb
    omega

end
end Go.Mg
