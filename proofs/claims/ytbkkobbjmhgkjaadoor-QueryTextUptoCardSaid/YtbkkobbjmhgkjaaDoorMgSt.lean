/- Texts: their bytes, parts of them, bytes as a text; a text's bytes appended; a new row with room. -/
import Derived.Test.YtbkkobbjmhgkjaaDoorMgH
import Derived.Lib.AppendStr
import Derived.Laws.BytesArg
import Derived.Laws.MakeOwn
namespace Go.Mg
open Go Go.Lib
set_option linter.unusedVariables false
set_option linter.unusedSimpArgs false
variable {P : Program} {w : World}

/-- A text's bytes as numbers. -/
def strB (s : ByteArray) : List Int := s.data.toList.map fun b => (b.toNat : Int)
/-- Bytes as a text. -/
def strOf (xs : List Int) : ByteArray := strOfNums xs
theorem strB_length (s : ByteArray) : (strB s).length = s.size := by
  unfold strB; rw [List.length_map, Array.length_toList]; rfl
/-- One byte of a text. -/
def sat_ (s : ByteArray) (i : Int) : Option Int := if 0 ≤ i ∧ i < s.size then some ((s.data.toList.getD i.toNat 0).toNat : Int) else none
/-- Parts of a text. -/
def sfrom_ (s : ByteArray) (i : Int) : Option ByteArray := if 0 ≤ i ∧ i ≤ s.size then some (s.extract i.toNat s.size) else none
def supto_ (s : ByteArray) (i : Int) : Option ByteArray := if 0 ≤ i ∧ i ≤ s.size then some (s.extract 0 i.toNat) else none
def spart_ (s : ByteArray) (i j : Int) : Option ByteArray := if 0 ≤ i ∧ i ≤ j ∧ j ≤ s.size then some (s.extract i.toNat j.toNat) else none

/-- What is told where a number is not below 0. -/
def pos_ (b r : Int) : Option Int := if 0 ≤ b then some r else none
theorem pos_some {b r y : Int} (h : pos_ b r = some y) : 0 ≤ b ∧ r = y := by
  unfold pos_ at h
  split at h
  · rename_i hb; exact ⟨hb, Option.some.inj h⟩
  · cases h

section
variable {ρ : En} {t t2 e : TypeId} {x y : Operand} {d : Option Tmp} {ty : TypeId} {pos : String} {af : Array Edge} {g : Option (Nat × Bool)} {s : ByteArray} {k : IntKind} {i j : Int}

theorem rv_sindex {r : Int} (ht : P.underlying t = some .string) (hx : ev ρ x = .string s) (hy : ev ρ y = .int k i) (h : sat_ s i = some r) : Rv P ⟨d, .index t x y, ty, pos, af, g⟩ ρ (.int .u8 r) := fun w => by
  unfold sat_ at h
  split at h
  case isFalse => cases h
  rename_i hc
  cases h
  have hi : i.toNat < s.size := by omega
  have hg : s[i.toNat]? = some (s[i.toNat]) := by simp [hi]
  have he : (s.data.toList.getD i.toNat 0) = s[i.toNat] := by
    have h2 : i.toNat < s.data.toList.length := by rw [Array.length_toList]; exact hi
    rw [List.getD_eq_getElem?_getD, List.getElem?_eq_getElem h2]
    rfl
  simp only [execOp, hx, hy, Instr.index, asIntOf, Sem.run_bind, Sem.run_pure, Result.andThen_ok, underlying, program, Sem.run, ht, if_pos hc.1, hg, he]

theorem rv_sfrom {u : ByteArray} (ht : P.underlying t = some .string) (hx : ev ρ x = .string s) (hy : ev ρ y = .int k i) (h : sfrom_ s i = some u) : Rv P ⟨d, .slice t x (some y) none none, ty, pos, af, g⟩ ρ (.string u) := fun w => by
  unfold sfrom_ at h
  split at h
  case isFalse => cases h
  rename_i hc
  cases h
  simp [execOp, hx, hy, Instr.sliceAt, Instr.slice, Instr.sliceBounds, Instr.sliceBound, asIntOf, underlying, program, Sem.run, ht, hc]
theorem rv_supto {u : ByteArray} (ht : P.underlying t = some .string) (hx : ev ρ x = .string s) (hy : ev ρ y = .int k i) (h : supto_ s i = some u) : Rv P ⟨d, .slice t x none (some y) none, ty, pos, af, g⟩ ρ (.string u) := fun w => by
  unfold supto_ at h
  split at h
  case isFalse => cases h
  rename_i hc
  cases h
  simp [execOp, hx, hy, Instr.sliceAt, Instr.slice, Instr.sliceBounds, Instr.sliceBound, asIntOf, underlying, program, Sem.run, ht, hc]

/-- Bytes as a text. -/
theorem rw_str {S : Nat → Prop} {w0 : World} {v : Value} {xs : List Int} {src dst : TypeId} (hs : Sl (kSl (kI .u8)) S w0 v xs) (hw : Sm S w0 w) (hsr : P.underlying src = some (.slice e)) (he : P.underlying e = some (.int .u8)) (hd : P.underlying dst = some .string)
    (hx : ev ρ x = v) : Rw P ⟨d, .convert src dst x, ty, pos, af, g⟩ ρ w (.string (strOf xs)) := by
  obtain ⟨A, c, rfl, hc, hl, hr⟩ := sl_slice.1 (hs.to hw)
  have hrun : (convert src dst (.slice A xs.length c)).run P w = .ok (.string (strOf xs)) w := by
    rcases hr with rfl | ⟨b, off, rfl, hb, hrow⟩
    · rw [run_convert_bytes_string w src dst e A _ c hsr he hd]
      cases A with
      | none => rfl
      | some a =>
        simp only [List.length_nil, Conv.bytesToString, loadCells, loadCellsFrom, Sem.run_bind, Sem.run_pure, Result.andThen_ok]
        rfl
    · refine run_convert_bytes_arg (P := P) w src e hsr he b off xs.length c xs rfl (fun i hi => ?_) dst hd
      obtain ⟨cs, h1, h2⟩ := hrow i _ (List.getElem?_eq_getElem hi)
      have h1 := rep_sc.1 h1
      subst h1
      have := h2 0 _ rfl
      rw [show (kI IntKind.u8).sz = 1 from rfl] at this
      rw [show off + i * 1 + 0 = off + i by omega] at this
      rw [this]
      simp [hi]
  unfold Rw
  simp only [execOp, hx, Sem.run_bind, hrun, Result.andThen_ok]
  rfl
end

/-! ### A text's bytes are appended -/
section
variable {v v' : Value} {ρ : En} {x y : Operand} {d : Option Tmp} {ty : TypeId} {pos : String} {af : Array Edge} {g : Option (Nat × Bool)} {kk : Value → World → Prop} {t t2 e base : Nat} {S : Nat → Prop} {xs zs : List Int} {s : ByteArray}

theorem strB_cells (s : ByteArray) : strCells s = (strB s).map (Value.int .u8) := by
  unfold strCells strB
  rw [List.map_map]
  rfl

theorem append_blockS {i : TypeInfo} {n b : Nat} {w w' : World} {cs : List Value} (ht : P.underlying t = some (.slice e)) (hu : P.underlying t2 = some .string) (hi : P.info? e = some i) (hz : i.zero = some (.int .u8 0)) (hsize : i.size = 1) (hby : i.bytes = 1)
    (hown : w.ownsRow base e 1 v n cs) (hbytes : n + s.size ≤ 140737488355328)
    (hr : (Builtin.append_ #[t, t2] ty #[v, .string s]).run P w = .ok v' w') (hb : v'.ownBlock = some b) (hne : ¬ v.ownBlock = some b) (hlt : b < w.heap.size) : False := by
  have hxl : cs.length = n := by simpa using hown.1
  rcases hown.2 with ⟨rfl, rfl⟩ | ⟨g, cap, cur, rfl, hbg, hg, hnc, hcm, hcs, htake⟩
  · by_cases hm : s.size = 0
    · have hf := run_firstCells_string (P := P) w 1 s
      have hn : strCells s = [] := List.eq_nil_of_length_eq_zero (by rw [strCells_length]; exact hm)
      rw [hm] at hf
      have h2 : (Builtin.append_ #[t, t2] ty #[.slice none 0 0, .string s]).run P w = .ok (.slice none 0 0) w := by
        simp [Builtin.append_, run_underlying ht, run_underlying hu, sizeOf, typeInfo, hi, hsize, Builtin.lenOf, hm, hf]
      rw [h2] at hr
      cases hr
      simp [Value.ownBlock] at hb
    · have h2 := run_append_nil_string (P := P) w t t2 ty e i (.int .u8 0) ht hu hi hz s (by omega) (by omega) (by rw [hby]; omega)
      rw [h2] at hr
      cases hr
      simp [Value.ownBlock] at hb
      omega
  · by_cases hroom : n + s.size ≤ cap
    · have hcs' : cur.size = cap := by simpa using hcs
      have h2 := run_append_room_string (P := P) w t t2 ty e i ht hu hi hsize g n cap cur hg s hroom (by omega)
      rw [h2] at hr
      cases hr
      simp [Value.ownBlock] at hb hne
      exact hne hb
    · have holds : ∀ j u, cs[j]? = some u → w.cell? ((⟨g, 0, none⟩ : Addr).add j) = some u := hown.cells (g := g) rfl
      have h2 := run_append_grow_string (P := P) w t t2 ty e i (.int .u8 0) ht hu hi hz ⟨g, 0, none⟩ n cap cs (by rw [hsize]; simpa using hxl) holds s (by omega) (by omega) (by rw [hby]; exact growslice_fits (by omega) (by omega))
      rw [h2] at hr
      cases hr
      simp [Value.ownBlock] at hb
      omega

theorem chk_bytes {w : World} : ∀ ys : List Int, Chk (kI .u8) S w (ys.map (Value.int .u8)) ys
  | [] => .nil
  | y :: ys => .cons (c := [.int .u8 y]) (rep_sc.2 rfl) (chk_bytes ys)

theorem dc_appendS (el : El P (kI .u8) t e 1) (hu : P.underlying t2 = some .string) (hz0 : (P.info? e).bind (·.zero) = some (.int .u8 0)) (ho : Ow (kI .u8) e S base w v xs) (hx : ev ρ x = v) (hy : ev ρ y = .string s) (ha : app_ 1 xs (strB s) = some zs) (hbase : base ≤ w.heap.size) (hS : Sb S w)
    (h : ∀ v' w', Ow (kI .u8) e S base w' v' zs → Up (Blk v) w w' → (∀ b, Blk v' b → Blk v b ∨ w.heap.size ≤ b) → kk v' w') :
    Does P ⟨d, .call { callee := .builtin .append, args := #[x, y], argTypes := #[t, t2] }, ty, pos, af, g⟩ ρ w kk := by
  unfold app_ at ha
  split at ha
  case isFalse => cases ha
  rename_i hbytes
  cases ha
  rw [strB_length, Nat.mul_one] at hbytes
  obtain ⟨cs, h1, h2, h3, h4⟩ := ho
  obtain ⟨inf, zv, hi, hz, hsz, hby', hzs⟩ := el.hi
  have hb' : xs.length + s.size ≤ 140737488355328 := hbytes
  have hzv : zv = .int .u8 0 := by
    rw [hi] at hz0
    simp only [Option.bind_some, hz] at hz0
    exact Option.some.inj hz0
  subst hzv
  obtain ⟨v', w', hr, hown, hgr, -⟩ := run_append_own_string (P := P) w base t t2 ty e inf el.ht hu hi hz hsz hby' v xs.length cs h1 s (by unfold maxLen; omega) hb' hbase
  have hblk : ∀ b, v'.ownBlock = some b → v.ownBlock = some b ∨ w.heap.size ≤ b := fun b hb => by
    by_cases hvb : v.ownBlock = some b
    · exact .inl hvb
    · rcases Nat.lt_or_ge b w.heap.size with hlt | hge
      · exact (append_blockS el.ht hu hi hz hsz hby' h1 hb' hr hb hvb hlt).elim
      · exact .inr hge
  have hup : Up (Blk v) w w' := ⟨hgr.os, hgr.tape, hgr.output, hgr.size, fun k hk hn => hgr.block k hk (fun e => hn e.symm)⟩
  have hsm : Sm S w w' := hup.sm fun b hb _ hf => h4 b hf hb
  have hown' : Ow (kI .u8) e S base w' v' (xs ++ strB s) := ⟨cs ++ strCells s, by rw [List.length_append, strB_length]; exact hown,
    (h2.to (fun _ h => h) hsm).append (by rw [strB_cells]; exact chk_bytes _), by rw [List.length_append, strB_length]; exact hbytes, fun b hb hs => by
      rcases hblk b hb with hb | hb
      · exact h4 b hb hs
      · have := hS b hs; omega⟩
  have hrun : (execOp (ev ρ) ⟨d, .call { callee := .builtin .append, args := #[x, y], argTypes := #[t, t2] }, ty, pos, af, g⟩).run P w = .ok (.value v') w' := by
    simp only [execOp, resolve, invoke, builtin, Sem.run_bind, Sem.run_pure, Result.andThen_ok, List.map_toArray, List.map_cons, List.map_nil, hx, hy, hr]
  unfold Does
  rw [hrun]
  exact h _ _ hown' hup hblk
end

/-! ### A new row with room -/
section
variable {α : Type} {k : Kd α} {ρ : En} {x y : Operand} {d : Option Tmp} {ty : TypeId} {pos : String} {af : Array Edge} {g : Option (Nat × Bool)} {kk : Value → World → Prop} {t e by_ base : Nat} {S : Nat → Prop}

/-- Whether memory bears a row of so many. -/
def room_ (by_ : Nat) (c : Int) : Option Unit := if 0 ≤ c ∧ c.toNat * by_ ≤ lim ∧ c ≤ lim then some () else none

theorem dc_makeS {c : Int} {kl kc : IntKind} (el : El P k t e by_) (hx : ev ρ x = .int kl 0) (hy : ev ρ y = .int kc c) (ha : room_ by_ c = some ()) (hbase : base ≤ w.heap.size) (hS : Sb S w)
    (h : ∀ v' w', Ow k e S base w' v' [] → (∀ b, Blk v' b → w.heap.size ≤ b) → Up No w w' → kk v' w') :
    Does P ⟨d, .makeSlice t x y, ty, pos, af, g⟩ ρ w kk := by
  unfold room_ at ha
  split at ha
  case isFalse => cases ha
  rename_i hc
  obtain ⟨c0, cb, cl⟩ := hc
  obtain ⟨inf, zv, hi, hz, hsz, hby', hzs⟩ := el.hi
  have hlim : Mg.lim = 140737488355328 := rfl
  have wl : IntKind.i64.wrap 0 = 0 := by rw [IntKind.wrap_i64]; omega
  have wc : IntKind.i64.wrap c = c := by rw [IntKind.wrap_i64]; omega
  obtain ⟨m, hm⟩ : ∃ m : Nat, c = (m : Int) := ⟨c.toNat, by omega⟩
  subst hm
  have hmb : m * inf.bytes ≤ 140737488355328 := by rw [hby']; exact cb
  have n1 : ¬ (m : Int) < 0 := by omega
  have n2 : ¬ (281474976710656 < (inf.bytes : Int) * (m : Int)) := by
    have : (inf.bytes : Int) * (m : Int) = ((m * inf.bytes : Nat) : Int) := by rw [Nat.mul_comm]; simp
    rw [this]; omega
  have n5 : ¬ (140737488355328 < m * inf.bytes) := by omega
  have hcells : ∃ cur : Array Value, cur.size = m * k.sz ∧ (execOp (ev ρ) ⟨d, .makeSlice t x y, ty, pos, af, g⟩).run P w = .ok (.value (.slice (some ⟨w.heap.size, 0, none⟩) 0 m)) (w.alloc (.cells cur e)) := by
    refine ⟨madeCells zv.cells (m * inf.size), by simp [madeCells, hsz], ?_⟩
    have hq := run_make w t e inf zv el.ht hi hz kl kc 0 (m : Int) (by omega) (by omega) (by omega) (by omega)
    simp only [execOp, hx, hy, Sem.run_bind, hq, Result.andThen_ok]
    rfl
  obtain ⟨cur, hcs, hrun⟩ := hcells
  unfold Does
  rw [hrun]
  refine h _ _ ⟨[], ⟨by simp, .inr ⟨w.heap.size, m, cur, rfl, hbase, heap_alloc_new _ _, Nat.zero_le _, ?_, hcs, by simp⟩⟩, .nil, Nat.zero_le _, fun b hb hs => ?_⟩ (fun b hb => ?_) (Up.alloc _ _ _)
  · unfold maxLen; omega
  · simp [Value.ownBlock] at hb
    have := hS b hs
    omega
  · simp [Blk, Value.ownBlock] at hb
    omega
end
end Go.Mg
