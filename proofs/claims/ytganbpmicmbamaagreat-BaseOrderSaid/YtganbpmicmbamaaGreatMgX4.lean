/- Arrays of a fixed size as values; keys of maps that are structs, or arrays of two numbers; Ranges over a map of the call's own, whose rounds come to the same in any order; Texts: their bytes, parts of them, bytes as a text; a text's bytes appended; a new row with room; Stores to maps by way of an entry: 'm[k], n[l] = a, b'; The rest of an own row is cleared; what is taken out of a row by a function; A range over a text, rune by rune; The library's sort of texts, in this layer's words; A store to a part of an own slice's element; Objects in objects; rows that an object owns: a field is taken out, and put back; Texts that grow: a strings.Builder as an object; texts put together; a table that a call leans on; A result that stands in a variable of the call's own; a row of which an object is a pointer to; Values of interface types, of a type that is known; a row of an object's that is turned in its place; a variable that is a row of its own; A row of rows, all of the call's own; A local struct whose fields hold rows of its own: its cells, as they are; Short forms for printed walks. -/
import Derived.Test.YtganbpmicmbamaaGreatMgX2
import Derived.Test.YtganbpmicmbamaaGreatMgX3
import Derived.Test.YtganbpmicmbamaaGreatMgX1
import Derived.Lib.AppendStr
import Derived.Laws.BytesArg
import Derived.Laws.MakeOwn
import Derived.Sort.EncStr
import Derived.Lib.Builder
import Derived.Lib.UnsafeStr
import Derived.Lib.LaidTab
import Derived.Lib.Join
import Derived.Lib.ItoaNum
import Derived.OwnWalk
import Derived.Sort.Grow
import Derived.Deep.Draws
namespace Go.Mg
open Go
set_option linter.unusedVariables false
variable {P : Program} {w : World}
section
variable {ρ : En} {t e t2 : TypeId} {x y : Operand} {d : Option Tmp} {ty : TypeId} {pos : String} {af : Array Edge} {g : Option (Nat × Bool)} {n sz : Nat}
end
theorem Up.fresh {w w1 w2 : World} {b : Nat} (u1 : Up No w w1) (hb : w.heap.size ≤ b) (u2 : Up (One b) w1 w2) : Up No w w2 :=
 ⟨u2.os.trans u1.os, u2.tape.trans u1.tape, u2.output.trans u1.output, Nat.le_trans u1.size u2.size, fun k hk _ =>
  (u2.block k (Nat.lt_of_lt_of_le hk u1.size) (fun h => by have h : k = b := h; omega)).trans (u1.block k hk fun h => h)⟩
theorem alloc_store {S : Nat → Prop} {w w1 w2 : World} {b : Nat} {cs : List Value} {e : TypeId} (hS : Sb S w) (h1 : w.heap.size ≤ b) (h2 : b < w1.heap.size) (u1 : Up No w w1) (u2 : Up (One b) w1 w2) (k : Bk w2 b cs e) :
 ∃ S', Cx No S w S' w2 ∧ Bs S' w2 b cs e :=
 ⟨_, Cx.one hS (u1.fresh h1 u2) h1 (Nat.lt_of_lt_of_le h2 u2.size), .inr rfl, k⟩
theorem run_vEq {t : TypeId} {x y : Value} {r : Bool} (h : vEq P Op.maxDepth t x y = some r) (w : World) : (Op.equal t x y).run P w = .ok r w := vEq_run _ _ _ _ _ h
def one1 : Value → Bool
 | .int _ _ | .bool _ | .string _ => true
 | _ => false
theorem same_one {v : Value} (h : one1 v = true) (n : Nat) : Instr.sameBits n v v = true := by
 cases v <;> first | (cases h; done) | (cases n <;> simp [Instr.sameBits, ba_beq])
theorem same_agg {cs : List Value} (h : cs.all one1 = true) (n : Nat) : Instr.sameBits (n + 1) (.agg cs.toArray) (.agg cs.toArray) = true := by
 simp only [Instr.sameBits, BEq.rfl, Bool.true_and, List.all_eq_true]; rintro ⟨x, y⟩ hxy
 have : x = y ∧ x ∈ cs := by
  clear h
  induction cs with
  | nil => simp at hxy
  | cons c cs ih =>
   simp only [List.zip_cons_cons, List.mem_cons] at hxy; rcases hxy with h | h
   ·cases h; exact ⟨rfl, by simp⟩
   ·have := ih h; exact ⟨this.1, by simp [this.2]⟩
 obtain ⟨rfl, hm⟩ := this; exact same_one (List.all_eq_true.1 h _ hm) n
end Go.Mg

namespace Go.Mg
open Go
set_option linter.unusedVariables false
set_option linter.unusedSimpArgs false
section
variable {κ σ : Type} {f : κ → σ → Option σ} {ks ls done : List κ} {s0 s o : σ}
end
section
variable {κ β : Type} [DecidableEq κ] {P : Program} {t : TypeId} {ky : Ky P t κ} {k : Kd β} {S : Nat → Prop} {w : World} {c : Value} {m : List (κ × β)} {fp : List Nat} {rb : Nat} {rem : List (κ × Value × Nat)} {lst : Option (κ × Value × Nat)} {kk : Value → World → Prop}
 {ρ : En} {d : Option Tmp} {x y z : Operand} {ty : TypeId} {pos : String} {af : Array Edge} {g : Option (Nat × Bool)} {tm te : TypeId}
end
end Go.Mg

namespace Go.Mg
open Go Go.Lib
set_option linter.unusedVariables false
set_option linter.unusedSimpArgs false
variable {P : Program} {w : World}
def strB (s : ByteArray) : List Int := s.data.toList.map fun b => (b.toNat : Int)
def strOf (xs : List Int) : ByteArray := strOfNums xs
theorem strB_length (s : ByteArray) : (strB s).length = s.size := by
 unfold strB; rw [List.length_map, Array.length_toList]; rfl
def sat_ (s : ByteArray) (i : Int) : Option Int := if 0 ≤ i ∧ i < s.size then some ((s.data.toList.getD i.toNat 0).toNat : Int) else none
def supto_ (s : ByteArray) (i : Int) : Option ByteArray := if 0 ≤ i ∧ i ≤ s.size then some (s.extract 0 i.toNat) else none
def pos_ (b r : Int) : Option Int := if 0 ≤ b then some r else none
theorem pos_some {b r y : Int} (h : pos_ b r = some y) : 0 ≤ b ∧ r = y := by
 unfold pos_ at h
 split at h
 ·rename_i hb; exact ⟨hb, Option.some.inj h⟩
 ·cases h
section
variable {ρ : En} {t t2 e : TypeId} {x y : Operand} {d : Option Tmp} {ty : TypeId} {pos : String} {af : Array Edge} {g : Option (Nat × Bool)} {s : ByteArray} {k : IntKind} {i j : Int}
theorem rv_sindex {r : Int} (ht : P.underlying t = some .string) (hx : ev ρ x = .string s) (hy : ev ρ y = .int k i) (h : sat_ s i = some r) : Rv P ⟨d, .index t x y, ty, pos, af, g⟩ ρ (.int .u8 r) := fun w => by
 unfold sat_ at h
 split at h
 case isFalse => cases h
 rename_i hc
 cases h
 have hi : i.toNat < s.size := by omega
 have hg : s[i.toNat]? = some (s[i.toNat]) := by simp [hi]
 have he : (s.data.toList.getD i.toNat 0) = s[i.toNat] := by
  have h2 : i.toNat < s.data.toList.length := by rw [Array.length_toList]; exact hi
  rw [List.getD_eq_getElem?_getD, List.getElem?_eq_getElem h2]
  rfl
 simp only [execOp, hx, hy, Instr.index, asIntOf, Sem.run_bind, Sem.run_pure, Result.andThen_ok, underlying, program, Sem.run, ht, if_pos hc.1, hg, he]
theorem rv_supto {u : ByteArray} (ht : P.underlying t = some .string) (hx : ev ρ x = .string s) (hy : ev ρ y = .int k i) (h : supto_ s i = some u) : Rv P ⟨d, .slice t x none (some y) none, ty, pos, af, g⟩ ρ (.string u) := fun w => by
 unfold supto_ at h
 split at h
 case isFalse => cases h
 rename_i hc
 cases h; simp [execOp, hx, hy, Instr.sliceAt, Instr.slice, Instr.sliceBounds, Instr.sliceBound, asIntOf, underlying, program, Sem.run, ht, hc]
theorem rw_str {S : Nat → Prop} {w0 : World} {v : Value} {xs : List Int} {src dst : TypeId} (hs : Sl (kSl (kI .u8)) S w0 v xs) (hw : Sm S w0 w) (hsr : P.underlying src = some (.slice e)) (he : P.underlying e = some (.int .u8)) (hd : P.underlying dst = some .string)
 (hx : ev ρ x = v) : Rw P ⟨d, .convert src dst x, ty, pos, af, g⟩ ρ w (.string (strOf xs)) := by
 obtain ⟨A, c, rfl, hc, hl, hr⟩ := sl_slice.1 (hs.to hw)
 have hrun : (convert src dst (.slice A xs.length c)).run P w = .ok (.string (strOf xs)) w := by
  rcases hr with rfl | ⟨b, off, rfl, hb, hrow⟩
  ·rw [run_convert_bytes_string w src dst e A _ c hsr he hd]
   cases A with
   | none => rfl
   | some a =>
    simp only [List.length_nil, Conv.bytesToString, loadCells, loadCellsFrom, Sem.run_bind, Sem.run_pure, Result.andThen_ok]
    rfl
  ·refine run_convert_bytes_arg (P := P) w src e hsr he b off xs.length c xs rfl (fun i hi => ?_) dst hd; obtain ⟨cs, h1, h2⟩ := hrow i _ (List.getElem?_eq_getElem hi); have h1 := rep_sc.1 h1; subst h1; have := h2 0 _ rfl; rw [show (kI IntKind.u8).sz = 1 from rfl] at this; rw [show off + i * 1 + 0 = off + i by omega] at this; rw [this]; simp [hi]
 unfold Rw; simp only [execOp, hx, Sem.run_bind, hrun, Result.andThen_ok]
 rfl
end
section
variable {v v' : Value} {ρ : En} {x y : Operand} {d : Option Tmp} {ty : TypeId} {pos : String} {af : Array Edge} {g : Option (Nat × Bool)} {kk : Value → World → Prop} {t t2 e base : Nat} {S : Nat → Prop} {xs zs : List Int} {s : ByteArray}
theorem strB_cells (s : ByteArray) : strCells s = (strB s).map (Value.int .u8) := by
 unfold strCells strB; rw [List.map_map]
 rfl
theorem append_blockS {i : TypeInfo} {n b : Nat} {w w' : World} {cs : List Value} (ht : P.underlying t = some (.slice e)) (hu : P.underlying t2 = some .string) (hi : P.info? e = some i) (hz : i.zero = some (.int .u8 0)) (hsize : i.size = 1) (hby : i.bytes = 1)
 (hown : w.ownsRow base e 1 v n cs) (hbytes : n + s.size ≤ 140737488355328)
 (hr : (Builtin.append_ #[t, t2] ty #[v, .string s]).run P w = .ok v' w') (hb : v'.ownBlock = some b) (hne : ¬ v.ownBlock = some b) (hlt : b < w.heap.size) : False := by
 have hxl : cs.length = n := by simpa using hown.1
 rcases hown.2 with ⟨rfl, rfl⟩ | ⟨g, cap, cur, rfl, hbg, hg, hnc, hcm, hcs, htake⟩
 ·by_cases hm : s.size = 0
  ·have hf := run_firstCells_string (P := P) w 1 s; have hn : strCells s = [] := List.eq_nil_of_length_eq_zero (by rw [strCells_length]; exact hm); rw [hm] at hf
   have h2 : (Builtin.append_ #[t, t2] ty #[.slice none 0 0, .string s]).run P w = .ok (.slice none 0 0) w := by
    simp [Builtin.append_, run_underlying ht, run_underlying hu, sizeOf, typeInfo, hi, hsize, Builtin.lenOf, hm, hf]
   rw [h2] at hr; cases hr; simp [Value.ownBlock] at hb
  ·have h2 := run_append_nil_string (P := P) w t t2 ty e i (.int .u8 0) ht hu hi hz s (by omega) (by omega) (by rw [hby]; omega); rw [h2] at hr; cases hr; simp [Value.ownBlock] at hb
   omega
 ·by_cases hroom : n + s.size ≤ cap
  ·have hcs' : cur.size = cap := by simpa using hcs
   have h2 := run_append_room_string (P := P) w t t2 ty e i ht hu hi hsize g n cap cur hg s hroom (by omega); rw [h2] at hr; cases hr; simp [Value.ownBlock] at hb hne; exact hne hb
  ·have holds : ∀ j u, cs[j]? = some u → w.cell? ((⟨g, 0, none⟩ : Addr).add j) = some u := hown.cells (g := g) rfl; have h2 := run_append_grow_string (P := P) w t t2 ty e i (.int .u8 0) ht hu hi hz ⟨g, 0, none⟩ n cap cs (by rw [hsize]; simpa using hxl) holds s (by omega) (by omega) (by rw [hby]; exact growslice_fits (by omega) (by omega)); rw [h2] at hr; cases hr; simp [Value.ownBlock] at hb
   omega
theorem chk_bytes {w : World} : ∀ ys : List Int, Chk (kI .u8) S w (ys.map (Value.int .u8)) ys
 | [] => .nil
 | y :: ys => .cons (c := [.int .u8 y]) (rep_sc.2 rfl) (chk_bytes ys)
theorem dc_appendS (el : El P (kI .u8) t e 1) (hu : P.underlying t2 = some .string) (hz0 : (P.info? e).bind (·.zero) = some (.int .u8 0)) (ho : Ow (kI .u8) e S base w v xs) (hx : ev ρ x = v) (hy : ev ρ y = .string s) (ha : app_ 1 xs (strB s) = some zs) (hbase : base ≤ w.heap.size) (hS : Sb S w)
 (h : ∀ v' w', Ow (kI .u8) e S base w' v' zs → Up (Blk v) w w' → (∀ b, Blk v' b → Blk v b ∨ w.heap.size ≤ b) → kk v' w') :
 Does P ⟨d, .call { callee := .builtin .append, args := #[x, y], argTypes := #[t, t2] }, ty, pos, af, g⟩ ρ w kk := by
 unfold app_ at ha
 split at ha
 case isFalse => cases ha
 rename_i hbytes
 cases ha; rw [strB_length, Nat.mul_one] at hbytes; obtain ⟨cs, h1, h2, h3, h4⟩ := ho; obtain ⟨inf, zv, hi, hz, hsz, hby', hzs⟩ := el.hi; have hb' : xs.length + s.size ≤ 140737488355328 := hbytes
 have hzv : zv = .int .u8 0 := by
  rw [hi] at hz0; simp only [Option.bind_some, hz] at hz0; exact Option.some.inj hz0
 subst hzv; obtain ⟨v', w', hr, hown, hgr, -⟩ := run_append_own_string (P := P) w base t t2 ty e inf el.ht hu hi hz hsz hby' v xs.length cs h1 s (by unfold maxLen; omega) hb' hbase
 have hblk : ∀ b, v'.ownBlock = some b → v.ownBlock = some b ∨ w.heap.size ≤ b := fun b hb => by
  by_cases hvb : v.ownBlock = some b
  ·exact .inl hvb
  ·rcases Nat.lt_or_ge b w.heap.size with hlt | hge
   ·exact (append_blockS el.ht hu hi hz hsz hby' h1 hb' hr hb hvb hlt).elim
   ·exact .inr hge
 have hup : Up (Blk v) w w' := ⟨hgr.os, hgr.tape, hgr.output, hgr.size, fun k hk hn => hgr.block k hk (fun e => hn e.symm)⟩; have hsm : Sm S w w' := hup.sm fun b hb _ hf => h4 b hf hb
 have hown' : Ow (kI .u8) e S base w' v' (xs ++ strB s) := ⟨cs ++ strCells s, by rw [List.length_append, strB_length]; exact hown,
  (h2.to (fun _ h => h) hsm).append (by rw [strB_cells]; exact chk_bytes _), by rw [List.length_append, strB_length]; exact hbytes, fun b hb hs => by
   rcases hblk b hb with hb | hb
   ·exact h4 b hb hs
   ·have := hS b hs; omega⟩
 have hrun : (execOp (ev ρ) ⟨d, .call { callee := .builtin .append, args := #[x, y], argTypes := #[t, t2] }, ty, pos, af, g⟩).run P w = .ok (.value v') w' := by
  simp only [execOp, resolve, invoke, builtin, Sem.run_bind, Sem.run_pure, Result.andThen_ok, List.map_toArray, List.map_cons, List.map_nil, hx, hy, hr]
 unfold Does; rw [hrun]; exact h _ _ hown' hup hblk
end
section
variable {α : Type} {k : Kd α} {ρ : En} {x y : Operand} {d : Option Tmp} {ty : TypeId} {pos : String} {af : Array Edge} {g : Option (Nat × Bool)} {kk : Value → World → Prop} {t e by_ base : Nat} {S : Nat → Prop}
def room_ (by_ : Nat) (c : Int) : Option Unit := if 0 ≤ c ∧ c.toNat * by_ ≤ lim ∧ c ≤ lim then some () else none
theorem dc_makeS {c : Int} {kl kc : IntKind} (el : El P k t e by_) (hx : ev ρ x = .int kl 0) (hy : ev ρ y = .int kc c) (ha : room_ by_ c = some ()) (hbase : base ≤ w.heap.size) (hS : Sb S w)
 (h : ∀ v' w', Ow k e S base w' v' [] → (∀ b, Blk v' b → w.heap.size ≤ b) → Up No w w' → kk v' w') :
 Does P ⟨d, .makeSlice t x y, ty, pos, af, g⟩ ρ w kk := by
 unfold room_ at ha
 split at ha
 case isFalse => cases ha
 rename_i hc
 obtain ⟨c0, cb, cl⟩ := hc; obtain ⟨inf, zv, hi, hz, hsz, hby', hzs⟩ := el.hi; have hlim : Mg.lim = 140737488355328 := rfl
 have wl : IntKind.i64.wrap 0 = 0 := by rw [IntKind.wrap_i64]; omega
 have wc : IntKind.i64.wrap c = c := by rw [IntKind.wrap_i64]; omega
 obtain ⟨m, hm⟩ : ∃ m : Nat, c = (m : Int) := ⟨c.toNat, by omega⟩; subst hm
 have hmb : m * inf.bytes ≤ 140737488355328 := by rw [hby']; exact cb
 have n1 : ¬ (m : Int) < 0 := by omega
 have n2 : ¬ (281474976710656 < (inf.bytes : Int) * (m : Int)) := by
  have : (inf.bytes : Int) * (m : Int) = ((m * inf.bytes : Nat) : Int) := by rw [Nat.mul_comm]; simp
  rw [this]; omega
 have n5 : ¬ (140737488355328 < m * inf.bytes) := by omega
 have hcells : ∃ cur : Array Value, cur.size = m * k.sz ∧ (execOp (ev ρ) ⟨d, .makeSlice t x y, ty, pos, af, g⟩).run P w = .ok (.value (.slice (some ⟨w.heap.size, 0, none⟩) 0 m)) (w.alloc (.cells cur e)) := by
  refine ⟨madeCells zv.cells (m * inf.size), by simp [madeCells, hsz], ?_⟩; have hq := run_make w t e inf zv el.ht hi hz kl kc 0 (m : Int) (by omega) (by omega) (by omega) (by omega); simp only [execOp, hx, hy, Sem.run_bind, hq, Result.andThen_ok]
  rfl
 obtain ⟨cur, hcs, hrun⟩ := hcells; unfold Does; rw [hrun]; refine h _ _ ⟨[], ⟨by simp, .inr ⟨w.heap.size, m, cur, rfl, hbase, heap_alloc_new _ _, Nat.zero_le _, ?_, hcs, by simp⟩⟩, .nil, Nat.zero_le _, fun b hb hs => ?_⟩ (fun b hb => ?_) (Up.alloc _ _ _)
 ·unfold maxLen; omega
 ·simp [Value.ownBlock] at hb; have := hS b hs
  omega
 ·simp [Blk, Value.ownBlock] at hb
  omega
end
end Go.Mg

namespace Go.Mg
open Go
open Go.ChangeMaps (setBlock)
set_option linter.unusedVariables false
set_option linter.unusedSimpArgs false
section
variable {P : Program} {w : World} {α : Type} [DecidableEq α] {t tm te : TypeId}
theorem run_ment {ky : Ky P t α} {b : Nat} {L : List (α × Value × Nat)} {c : Nat} {zv : Value} (M : Mp ky w b L c) (ht : P.underlying tm = some (.map t te)) (hz : ∀ w, (zeroValue te).run P w = .ok zv w) (k : α) :
 ∃ z n, (z = (look k L).getD zv) ∧ (k, z, n) ∈ mset k z c L ∧
 (Instr.mapEntry tm (.map (some b)) (ky.enc k)).run P w = .ok (.tuple #[z, .int .i64 (n : Nat)]) (setBlock w b (.map ((mset k z c L).map (ent ky.enc)).toArray (if k ∈ L.map (·.1) then c else c + 1))) := by
 have hf : (Instr.findKey t (ky.enc k) (L.map (ent ky.enc)).toArray.toList).run P w = .ok (fnd k L 0) w := ky.find k L w; unfold Instr.mapEntry; simp only [Sem.run_bind, run_underlying ht, Result.andThen_ok, MapKept.run_getObj_map M.h, ky.chk, Sem.run_pure, hf]; rw [← fnd_look k L 0]; cases hq : fnd k L 0 with
 | none =>
  have hn := fnd_none hq
  have hnm : k ∉ L.map (·.1) := fun h => by obtain ⟨x, hx, e⟩ := List.mem_map.1 h; exact hn x hx e.symm
  refine ⟨zv, c, rfl, by rw [mset_none hn]; simp, ?_⟩; rw [if_neg hnm, mset_none hn]; simp only [Sem.run_bind, hz, Result.andThen_ok, MapKept.run_setObj_map _ M.h, Sem.run_pure]; simp [ChangeMaps.setBlock, ent, goInt]
 | some p =>
  obtain ⟨j, hj, x, hx, hkx, hv, hm⟩ := fnd_some hq; obtain ⟨i, pv⟩ := p; simp only [Nat.zero_add] at hj hv; subst hj; have hmem : k ∈ L.map (·.1) := List.mem_map.2 ⟨x, List.mem_of_getElem? hx, hkx.symm⟩
  have hxx : (x.1, pv, x.2.2) = x := by rw [hv]
  have hL : mset k pv c L = L := by
   rw [mset_at hx hkx hm]
   apply List.ext_getElem?
   intro m; rw [List.getElem?_modify]
   by_cases e : i = m
   ·subst e; simp [hx, hxx]
   ·simp [e]
  refine ⟨pv, x.2.2, rfl, by rw [hL, hkx, hxx]; exact List.mem_of_getElem? hx, ?_⟩; rw [if_pos hmem, hL]
  have hkey : (((L.map (ent ky.enc)).toArray[i]?).map (·.key)).getD (ky.enc k) = ky.enc k := by
   simp [hx, ent, hkx]
  have hst : (Instr.keyThatStays (ky.enc k) (ky.enc k)).run P w = .ok (ky.enc k) w := by
   unfold Instr.keyThatStays; rw [ky.same k]; simp [Sem.run_pure]
  have he : ((L.map (ent ky.enc)).toArray.modify i fun e => { e with key := ky.enc k }) = (L.map (ent ky.enc)).toArray := by
   apply Array.ext_getElem?
   intro m; simp only [Array.getElem?_modify, List.getElem?_toArray, List.getElem?_map]
   by_cases e : i = m
   ·subst e; simp [hx, ent, hkx]
   ·simp [e]
  have hb : (((L.map (ent ky.enc)).toArray[i]?).map (fun e => (e.born : Int))).getD 0 = (x.2.2 : Int) := by simp [hx, ent]
  simp only [hkey, Sem.run_bind, hst, Result.andThen_ok, MapKept.run_setObj_map _ M.h, he, hb, Sem.run_pure]
  rfl
theorem run_estore {ky : Ky P t α} {b : Nat} {L : List (α × Value × Nat)} {c n : Nat} {k : α} {z : Value} (M : Mp ky w b L c) (hm : (k, z, n) ∈ L) (u : Value) :
 (Instr.entryStore tm (.map (some b)) (.int .i64 (n : Nat)) u).run P w = .ok () (setBlock w b (.map ((mset k u c L).map (ent ky.enc)).toArray (if k ∈ L.map (·.1) then c else c + 1))) := by
 obtain ⟨i, hi⟩ := List.getElem?_of_mem hm; have hmem : k ∈ L.map (·.1) := List.mem_map.2 ⟨_, hm, rfl⟩; obtain ⟨hil, hie⟩ := List.getElem?_eq_some_iff.1 hi
 have hfst : ∀ m y, m < i → L[m]? = some y → k ≠ y.1 := fun m y hmi hy e => by
  obtain ⟨hml, hme⟩ := List.getElem?_eq_some_iff.1 hy; have := (List.getElem_inj (xs := L.map (·.1)) (i := m) (j := i) (h₀ := by simpa using hml) (h₁ := by simpa using hil) M.keys).1 (by simp [hme, hie, e])
  omega
 have hfind : (L.map (ent ky.enc)).toArray.findIdx? (fun e => (e.born : Int) == (n : Int)) = some i := by
  rw [List.findIdx?_toArray, List.findIdx?_map]; rw [List.findIdx?_eq_some_iff_getElem]; refine ⟨hil, by simp [hie, ent], fun j hji => ?_⟩; simp only [Function.comp, ent]; intro he
  have hjl : j < L.length := by omega
  have e2 : (L[j]).2.2 = n := by
   have : ((L[j]).2.2 : Int) = (n : Int) := by simpa using he
   omega
  have := (List.getElem_inj (xs := L.map (·.2.2)) (i := j) (j := i) (h₀ := by simpa using hjl) (h₁ := by simpa using hil) M.born).1 (by simp [hie, e2])
  omega
 unfold Instr.entryStore; simp only [Sem.run_bind, Result.andThen_ok, MapKept.run_getObj_map M.h, asInt, asIntOf, Sem.run_pure, hfind]; rw [if_pos hmem, mset_at hi rfl hfst]
 have he : ((L.map (ent ky.enc)).toArray.modify i fun e => { e with val := u }) = ((L.modify i fun x => (x.1, u, x.2.2)).map (ent ky.enc)).toArray := by
  apply Array.ext_getElem?
  intro m; simp only [Array.getElem?_modify, List.getElem?_toArray, List.getElem?_map, List.getElem?_modify]
  by_cases e : i = m
  ·subst e; simp [hi, ent]
  ·simp [e]
 simp only [MapKept.run_setObj_map _ M.h, he]
 rfl
theorem mset_mset (k : α) (u z : Value) (c c' : Nat) : ∀ L : List (α × Value × Nat), mset k u c' (mset k z c L) = mset k u c L
 | [] => by simp [mset]
 | y :: L => by
  unfold mset
  by_cases e : k = y.1
  ·simp only [if_pos e, mset]
  ·simp only [if_neg e, mset, mset_mset k u z c c' L]
end
section
variable {P : Program} {e te tm t : TypeId} {l : List ((α : Type) × Fk α × α)} {S : Nat → Prop} {w : World} {v c u zv : Value} {cs : List Value} {fp : List Nat} {kk : Value → World → Prop} {κ β : Type} [DecidableEq κ] {ky : Ky P t κ} {k : Kd β}
 {ρ : En} {d : Option Tmp} {ty : TypeId} {pos : String} {af : Array Edge} {g : Option (Nat × Bool)} {x y : Operand} {i : Nat} {m : List (κ × β)}
theorem dc_oment (h : Ob e l S w v cs fp) (hi : l[i]? = some ⟨_, fMap ky k, m⟩) (hc : cs[i]? = some c) (ht : P.underlying tm = some (.map t te)) (hz : (P.info? te).bind (·.zero) = some zv) {a : κ}
 (hx : ev ρ x = c) (hy : ev ρ y = ky.enc a)
 (hk : ∀ z (n : Nat) w1, Up (fun b => b ∈ fp) w w1 →
  (∀ {ρ : En} {d : Option Tmp} {ty : TypeId} {pos : String} {af : Array Edge} {g : Option (Nat × Bool)} {x y y2 : Operand} {u : Value} {b' : β} {kk : Value → World → Prop}, ev ρ x = c → ev ρ y = .int .i64 (n : Nat) → ev ρ y2 = u → Sl k S w1 u b' →
   (∀ w2, Ob e (l.set i ⟨_, fMap ky k, mput a b' m⟩) S w2 v cs fp → Up (fun b => b ∈ fp) w1 w2 → kk undef w2) → Does P ⟨d, .entryStore tm x y y2, ty, pos, af, g⟩ ρ w1 kk) →
  kk (.tuple #[z, .int .i64 (n : Nat)]) w1) :
 Does P ⟨d, .mapEntry tm x y, ty, pos, af, g⟩ ρ w kk := by
 obtain ⟨fi, hr, hsub, hturn⟩ := h.turn hi hc; obtain ⟨b, L, cl, rfl, rfl, hS, hM, hR⟩ := hr
 have hz' : ∀ w, (zeroValue te).run P w = .ok zv w := fun w => by
  unfold zeroValue; cases hi : P.info? te with
  | none => simp [hi] at hz
  | some inf =>
   cases hzz : inf.zero with
   | none => simp [hi, hzz] at hz
   | some z1 =>
    simp [hi, hzz] at hz; simp [typeInfo, program, Sem.run, hi, hzz, hz]
 obtain ⟨z, n, -, hmem, hrun⟩ := run_ment hM ht hz' a; have hM1 := hM.set a z; have hup : Up (One b) w (setBlock w b (.map ((mset a z cl L).map (ent ky.enc)).toArray (if a ∈ L.map (·.1) then cl else cl + 1))) := Up.setBlock
 have hrun' : (execOp (ev ρ) ⟨d, .mapEntry tm x y, ty, pos, af, g⟩).run P w = .ok (.value (.tuple #[z, .int .i64 (n : Nat)])) (setBlock w b (.map ((mset a z cl L).map (ent ky.enc)).toArray (if a ∈ L.map (·.1) then cl else cl + 1))) := by
  simp only [execOp, hx, hy, Sem.run_bind, hrun, Result.andThen_ok, Sem.run_pure]
 unfold Does; rw [hrun']; refine hk z n _ (hup.mono fun x _ hx => by have hx : x = b := hx; subst hx; exact hsub _ (by simp)) ?_; intro ρ2 d2 ty2 pos2 af2 g2 x2 y2 y3 u b' kk2 hx2 hy2 hy3 hu hk2; have hrs := run_estore (tm := tm) hM1 hmem u
 have hW : ∃ W2 c2, (execOp (ev ρ2) ⟨d2, .entryStore tm x2 y2 y3, ty2, pos2, af2, g2⟩).run P (setBlock w b (.map ((mset a z cl L).map (ent ky.enc)).toArray (if a ∈ L.map (·.1) then cl else cl + 1))) = .ok .skip W2 ∧ Mp ky W2 b (mset a u cl L) c2 ∧
  Up (One b) (setBlock w b (.map ((mset a z cl L).map (ent ky.enc)).toArray (if a ∈ L.map (·.1) then cl else cl + 1))) W2 := by
  refine ⟨_, _, ?_, (congrArg (fun q => Mp ky _ b q _) (mset_mset a u z cl _ L)).mp (hM1.set a u), Up.setBlock⟩; simp only [execOp, hx2, hy2, hy3, Sem.run_bind, hrs, Result.andThen_ok]
  rfl
 obtain ⟨W2, c2, hrun2, hM2, up2⟩ := hW; unfold Does; rw [hrun2]; have hup2 := hup.trans up2
 have hsm : Sm S w W2 := hup2.sm fun q hq _ hqb => by have hqb : q = b := hqb; rw [hqb] at hq; exact hS hq
 have hsm2 := up2.sm (S := S) fun q hq _ hqb => by have hqb : q = b := hqb; rw [hqb] at hq; exact hS hq
 exact hk2 _ (hturn ⟨b, _, c2, rfl, rfl, hS, hM2, (hR.imp fun v y hv => hv.to hsm).set a (hu.to hsm2) cl⟩ (hup2.mono fun x _ hx => by have hx : x = b := hx; subst hx; simp)) (up2.mono fun x _ hx => by have hx : x = b := hx; subst hx; exact hsub _ (by simp))
end
end Go.Mg

namespace Go.Mg
open Go
set_option linter.unusedVariables false
set_option linter.unusedSimpArgs false
section
variable {P : Program} {α : Type} {k : Kd α} {e t by_ base : Nat} {S : Nat → Prop} {w : World} {v : Value} {xs : List α}
theorem zeroCells_one {z : Array Value} (hz : 0 < z.size) (h : ∀ c ∈ z.toList, c.oneCell' = true) (n : Nat) : ∀ c ∈ (Builtin.zeroCells z n).toList, c.oneCell' = true := by
 intro c hc; unfold Builtin.zeroCells at hc; rw [Array.toList_map, List.mem_map] at hc; obtain ⟨i, _, rfl⟩ := hc; have hi : i % z.size < z.size := Nat.mod_lt _ hz; rw [getElem!_pos z _ hi]; exact h _ (by simp)
theorem dc_clearO {i : Int} {ys : List α} {zc : List Value} (el : El P k t e by_) (hz0 : zeroOf P e = some zc) (hz1 : ∀ c ∈ zc, c.oneCell' = true) (ho : Ow k e S base w v xs) (hi : upto_ xs i = some ys)
 {ρ : En} {d : Option Tmp} {ty : TypeId} {pos : String} {af : Array Edge} {g : Option (Nat × Bool)} {x : Operand} {kk : Value → World → Prop}
 (hx : ∀ A n c, v = .slice A n c → ev ρ x = .slice (if c = i.toNat then A else A.map (·.add (i.toNat * k.sz))) (n - i.toNat) (c - i.toNat))
 (h : ∀ w' u, Ow k e S base w' u ys → (∀ b, Blk u b → Blk v b) → (∀ {ρ : En} {d : Option Tmp} {ty : TypeId} {pos : String} {af : Array Edge} {g : Option (Nat × Bool)} {x z : Operand} {kh : IntKind},
  ev ρ x = v → ev ρ z = .int kh i → Rv P ⟨d, .slice t x none (some z) none, ty, pos, af, g⟩ ρ u) → Up (Blk v) w w' → kk (.tuple #[]) w') :
 Does P ⟨d, .call { callee := .builtin .clear, args := #[x], argTypes := #[t] }, ty, pos, af, g⟩ ρ w kk := by
 obtain ⟨u, hu, hub, hur⟩ := Ow.upto (P := P) ho hi el; obtain ⟨cs, ⟨h1, h1'⟩, h2, h3, h4⟩ := ho
 have hb : 0 ≤ i ∧ i.toNat ≤ xs.length ∧ ys = xs.take i.toNat := by
  unfold upto_ at hi
  split at hi
  case isFalse => cases hi
  rename_i hb
  cases hi; exact ⟨hb.1, by omega, rfl⟩
 have fin : ∀ {y : Value}, (ev ρ x = y) → (Builtin.clear_ #[t] ty #[y]).run P w = .ok (.tuple #[]) w → Does P ⟨d, .call { callee := .builtin .clear, args := #[x], argTypes := #[t] }, ty, pos, af, g⟩ ρ w kk := by
  intro y hy hr
  have hrun : (execOp (ev ρ) ⟨d, .call { callee := .builtin .clear, args := #[x], argTypes := #[t] }, ty, pos, af, g⟩).run P w = .ok (.value (.tuple #[])) w := by
   simp only [execOp, resolve, invoke, builtin, Sem.run_bind, Sem.run_pure, Result.andThen_ok, List.map_toArray, List.map_cons, List.map_nil, hy, hr]
  unfold Does; rw [hrun]; exact h w u hu hub hur (Up.refl _ _)
 have hclr : ∀ (A : Option Addr) (n c : Nat), A = none ∨ n = 0 → (Builtin.clear_ #[t] ty #[.slice A n c]).run P w = .ok (.tuple #[]) w := by
  intro A n c hA
  cases A with
  | none => simp [Builtin.clear_, run_underlying' el.ht]
  | some a =>
   have hn : n = 0 := hA.elim (fun h => by cases h) id; subst hn; simp [Builtin.clear_, run_underlying' el.ht]
 rcases h1' with ⟨rfl, hn⟩ | ⟨gb, cap, cur, rfl, hbg, hg, hnc, hcm, hcs, htk⟩
 ·have hx' : ev ρ x = .slice none (0 - i.toNat) (0 - i.toNat) := by rw [hx none 0 0 rfl]; split <;> rfl
  exact fin hx' (hclr _ _ _ (.inl rfl))
 ·have hx' := hx _ _ _ rfl
  by_cases hlen : xs.length - i.toNat = 0
  ·rw [hlen] at hx'; exact fin hx' (hclr _ _ _ (.inr rfl))
  ·have hne : ¬ cap = i.toNat := by omega
   rw [if_neg hne] at hx'
   have hx' : ev ρ x = .slice (some ⟨gb, i.toNat * k.sz, none⟩) (xs.length - i.toNat) (cap - i.toNat) := by rw [hx']; simp [Addr.add_lit]
   obtain ⟨inf, zv, hinf, hzv, hsz, hby', hzs⟩ := el.hi
   have hzc : zv.cells.toList = zc := by
    unfold zeroOf at hz0; rw [hinf] at hz0; simp only [Option.bind_some, hzv, Option.map_some] at hz0; exact Option.some.inj hz0
   have hpos := el.hs; have hone := zeroCells_one (z := zv.cells) (by omega) (by rw [hzc]; exact hz1) (xs.length - i.toNat)
   have hzl : (Builtin.zeroCells zv.cells (xs.length - i.toNat)).toList.length = (xs.length - i.toNat) * k.sz := by simp [Builtin.zeroCells, hzs]
   have hfit : i.toNat * k.sz + (xs.length - i.toNat) * k.sz ≤ cur.size := by
    rw [← Nat.add_mul, hcs]; exact Nat.mul_le_mul_right _ (by omega)
   have hst := run_storeCells_at P gb (i.toNat * k.sz) e (Builtin.zeroCells zv.cells (xs.length - i.toNat)).toList 0 cur w hg (by rw [hzl]; omega) hone
   obtain ⟨r, hr1, hst⟩ : ∃ r : Array Value, r.toList.take (i.toNat * k.sz) = cur.toList.take (i.toNat * k.sz) ∧ r.size = cur.size ∧ (storeCells ⟨gb, i.toNat * k.sz, none⟩ (Builtin.zeroCells zv.cells (xs.length - i.toNat)).toList 0).run P w = .ok () (w.setRow gb r) := by
    refine ⟨_, ?_, ?_, hst⟩
    ·rw [Nat.add_zero, List.append_assoc, List.take_append_of_le_length (by rw [List.length_take, Array.length_toList]; omega), List.take_take, Nat.min_self]
    ·rw [List.size_toArray, List.length_append, List.length_append, List.length_take, List.length_drop, hzl, Array.length_toList]; omega
   obtain ⟨hrs, hst⟩ := hst
   have hz' : (zeroValue e).run P w = .ok zv w := by simp [zeroValue, typeInfo, program, Sem.run, hinf, hzv]
   have hr : (Builtin.clear_ #[t] ty #[.slice (some ⟨gb, i.toNat * k.sz, none⟩) (xs.length - i.toNat) (cap - i.toNat)]).run P w = .ok (.tuple #[]) (w.setRow gb r) := by
    obtain ⟨m, hm⟩ : ∃ m, xs.length - i.toNat = m + 1 := ⟨xs.length - i.toNat - 1, by omega⟩; rw [hm] at hst ⊢; simp [Builtin.clear_, Sem.run_bind, run_underlying' el.ht, Result.andThen_ok, hz', hst, Sem.run_pure]
   have hrun : (execOp (ev ρ) ⟨d, .call { callee := .builtin .clear, args := #[x], argTypes := #[t] }, ty, pos, af, g⟩).run P w = .ok (.value (.tuple #[])) (w.setRow gb r) := by
    simp only [execOp, resolve, invoke, builtin, Sem.run_bind, Sem.run_pure, Result.andThen_ok, List.map_toArray, List.map_cons, List.map_nil, hx', hr]
   unfold Does; rw [hrun]; have up : Up (Blk (.slice (some ⟨gb, 0, none⟩) xs.length cap)) w (w.setRow gb r) := ⟨rfl, rfl, rfl, by simp, fun b _ hb => setRow_other w gb b r fun e => hb (by subst e; rfl)⟩; have hS : Sm S w (w.setRow gb r) := up.sm fun b hb _ hB => h4 b hB hb; refine h _ u ?_ hub hur up
   -- the first ones are as they were
   obtain ⟨cs2, ⟨g1, g1'⟩, g2, g3, g4⟩ := hu; rcases g1' with ⟨hun, hn⟩ | ⟨gb2, cap2, cur2, rfl, hbg2, hg2, hnc2, hcm2, hcs2, htk2⟩
   ·exact ⟨cs2, ⟨g1, .inl ⟨hun, hn⟩⟩, g2.to (fun _ h => h) hS, g3, g4⟩
   ·have hgb : gb2 = gb := by
     have := hub gb2 rfl; simpa [Blk, Value.ownBlock] using this.symm
    subst hgb; rw [hg] at hg2; cases hg2
    have hyl : ys.length = i.toNat := by rw [hb.2.2, List.length_take]; omega
    refine ⟨cs2, ⟨g1, .inr ⟨gb2, cap2, r, rfl, hbg2, setRow_heap w gb2 cur r e _ hg, hnc2, hcm2, by rw [hrs]; exact hcs2, ?_⟩⟩, g2.to (fun _ h => h) hS, g3, g4⟩; rw [← htk2, hyl, hr1]
end
def delF_ {α : Type} (p : α → Option Bool) : List α → Option (List α)
 | [] => some []
 | x :: l => (p x).bind fun b => bif b then delF_ p l else (delF_ p l).bind fun r => some (x :: r)
theorem delF_split {α : Type} {p : α → Option Bool} : ∀ {l r : List α} {k : Int}, delF_ p l = some r →
 (yr p l k = some (-1) ∧ r = l) ∨ ∃ A x B r2, l = A ++ x :: B ∧ yr p l k = some (k + A.length) ∧ delF_ p B = some r2 ∧ r = A ++ r2
 | [], r, k, h => .inl ⟨rfl, (Option.some.inj h).symm⟩
 | x :: l, r, k, h => by
  unfold delF_ at h; obtain ⟨b, hb, h⟩ := qb h
  cases b with
  | true => exact .inr ⟨[], x, l, r, rfl, by simp [yr, hb], h, rfl⟩
  | false =>
   obtain ⟨r', h1, h2⟩ := qb h; cases h2; rcases delF_split (k := k + 1) h1 with ⟨h3, rfl⟩ | ⟨A, y, B, r2, rfl, h3, h4, rfl⟩
   ·exact .inl ⟨by simp [yr, hb, h3], rfl⟩
   ·refine .inr ⟨x :: A, y, B, r2, rfl, ?_, h4, rfl⟩; simp only [yr, hb, Option.bind_some, cond_false, h3, List.length_cons]
    congr 1
    omega
theorem upto_take {α : Type} {l : List α} {i : Nat} (h : i ≤ l.length) : upto_ l (i : Int) = some (l.take i) := by simp [upto_, h]
end Go.Mg

namespace Go.Mg
open Go
open Go.ChangeMaps (setBlock)
set_option linter.unusedVariables false
set_option linter.unusedSimpArgs false
def sidxF (p : Int → Option Bool) (s : ByteArray) (tr : Bool) : Nat → Nat → Option Int
 | 0, pos => if pos < s.size then none else some (-1)
 | n + 1, pos => if pos < s.size then (p ((Utf8.decode s pos).1 : Nat)).bind fun b => bif b == tr then some (pos : Int) else sidxF p s tr n (pos + (Utf8.decode s pos).2) else some (-1)
def sidx_ (p : Int → Option Bool) (s : ByteArray) (tr : Bool) : Option Int := sidxF p s tr s.size 0
def SIt (w : World) (r : Nat) (s : ByteArray) (pos : Nat) : Prop := w.heap[r]? = some (.stringIter s pos)
section
variable {P : Program} {w : World} {t : TypeId} {s : ByteArray} {r pos : Nat} {kk : Value → World → Prop} {ρ : En} {d : Option Tmp} {x : Operand} {ty : TypeId} {ps : String} {af : Array Edge} {g : Option (Nat × Bool)}
theorem SIt.lt (h : SIt w r s pos) : r < w.heap.size := (Array.getElem?_eq_some_iff.1 h).1
theorem SIt.to {w' : World} (h : SIt w r s pos) (hb : w'.heap[r]? = w.heap[r]?) : SIt w' r s pos := hb.trans h
theorem dc_srange (ht : P.underlying t = some .string) (hx : ev ρ x = .string s) (h : ∀ r w', w.heap.size ≤ r → SIt w' r s 0 → Up No w w' → kk (.pointer (some ⟨r, 0, none⟩)) w') :
 Does P ⟨d, .range t x, ty, ps, af, g⟩ ρ w kk := by
 have hrun : (execOp (ev ρ) ⟨d, .range t x, ty, ps, af, g⟩).run P w = .ok (.value (.pointer (some ⟨w.heap.size, 0, none⟩))) (w.alloc (.stringIter s 0)) := by
  simp only [execOp, hx, Instr.range, Sem.run_bind, run_underlying ht, Result.andThen_ok, Sem.run_pure]
  rfl
 unfold Does; rw [hrun]; exact h _ _ (Nat.le_refl _) (heap_alloc_new _ _) (Up.alloc _ _ _)
theorem dc_snext (I : SIt w r s pos) (hx : ev ρ x = .pointer (some ⟨r, 0, none⟩))
 (h0 : ¬ pos < s.size → kk (.tuple #[.bool false]) w)
 (h1 : ∀ w', pos < s.size → SIt w' r s (pos + (Utf8.decode s pos).2) → Up (One r) w w' → kk (.tuple #[.bool true, .int .i64 (pos : Nat), .int .i32 ((Utf8.decode s pos).1 : Nat)]) w') :
 Does P ⟨d, .next x true, ty, ps, af, g⟩ ρ w kk := by
 have hrl : r < w.heap.size := I.lt
 have hg : (getObj r).run P w = .ok (.stringIter s pos) w := by
  simp only [getObj, Sem.run_bind, Sem.run]; unfold SIt at I; simp [Sem.run, I]
 have hs : (setObj r (.stringIter s (pos + (Utf8.decode s pos).2))).run P w = .ok () (setBlock w r (.stringIter s (pos + (Utf8.decode s pos).2))) := by
  unfold SIt at I; simp [setObj, Sem.run, I, setBlock]
 by_cases hp : pos < s.size
 ·have hrun : (execOp (ev ρ) ⟨d, .next x true, ty, ps, af, g⟩).run P w = .ok (.value (.tuple #[.bool true, .int .i64 (pos : Nat), .int .i32 ((Utf8.decode s pos).1 : Nat)])) (setBlock w r (.stringIter s (pos + (Utf8.decode s pos).2))) := by
   simp only [execOp, hx, Instr.next, Sem.run_bind, hg, Result.andThen_ok, if_pos hp, hs, Sem.run_pure, goInt]
  unfold Does; rw [hrun]; exact h1 _ hp (by simp [SIt, setBlock, hrl]) Up.setBlock
 ·have hrun : (execOp (ev ρ) ⟨d, .next x true, ty, ps, af, g⟩).run P w = .ok (.value (.tuple #[.bool false])) w := by
   simp only [execOp, hx, Instr.next, Sem.run_bind, hg, Result.andThen_ok, if_neg hp, Sem.run_pure]
  unfold Does; rw [hrun]; exact h0 hp
end
end Go.Mg

namespace Go.Mg
open Go Go.Sort Go.Lib Go.Proofs
set_option linter.unusedVariables false
section
variable {P : Program} {w : World} {S : Nat → Prop} {e : TypeId} {base : Nat}
end
end Go.Mg

namespace Go.Mg
open Go
set_option linter.unusedVariables false
set_option linter.unusedSimpArgs false
theorem osi {α : Type} {a b : α} (h : some a = some b) : a = b := Option.some.inj h
theorem set_in {β : Type} {cs c : List β} {a off : Nat} {u : β} (hc : ∀ j x, c[j]? = some x → cs[a + j]? = some x) (ho : off < c.length) (hs : a + c.length ≤ cs.length) :
 cs.take a ++ c.set off u ++ cs.drop (a + c.length) = cs.set (a + off) u := by
 have e1 : (cs.take a).length = a := by rw [List.length_take]; omega
 apply List.ext_getElem?
 intro j
 by_cases h1 : j < a
 ·rw [List.append_assoc, List.getElem?_append_left (by omega), List.getElem?_take, if_pos h1, List.getElem?_set_ne (by omega)]
 ·by_cases h2 : j < a + c.length
  ·rw [List.append_assoc, List.getElem?_append_right (by omega), e1, List.getElem?_append_left (by rw [List.length_set]; omega)]
   by_cases h3 : j = a + off
   ·subst h3; rw [List.getElem?_set_self (by omega), show a + off - a = off by omega, List.getElem?_set_self ho]
   ·rw [List.getElem?_set_ne (by omega), List.getElem?_set_ne (by omega)]
    have hj : j - a < c.length := by omega
    have := hc (j - a) _ (List.getElem?_eq_getElem hj); rw [List.getElem?_eq_getElem hj, ← this, show a + (j - a) = j by omega]
  ·rw [List.getElem?_append_right (by rw [List.length_append, List.length_set]; omega), List.length_append, List.length_set, e1, List.getElem?_drop, show a + c.length + (j - (a + c.length)) = j by omega, List.getElem?_set_ne (by omega)]
section
variable {P : Program} {α : Type} {k : Kd α} {e : TypeId} {base : Nat} {S : Nat → Prop} {w : World} {v u : Value} {xs : List α}
theorem dc_storeP {by_ off : Nat} {te : TypeId} {i : Int} {z z' : α} {ρ : En} {d : Option Tmp} {ty : TypeId} {pos : String} {af : Array Edge} {g : Option (Nat × Bool)} {x q : Operand} {kk : Value → World → Prop}
 (el : Ty P k e by_) (ha : aggOf P te = some (false, 1)) (ho : Ow k e S base w v xs) (hi : at_ xs i = some z) (hoff : off < k.sz) (hx : ev ρ x = .pointer (some ⟨sb v, so v + i.toNat * k.sz + off, none⟩)) (hq : ev ρ q = u) (hu : u.oneCell' = true)
 (hz : ∀ cs, k.rep S w cs z → k.rep S w (cs.set off u) z')
 (h : ∀ w', Ow k e S base w' v (xs.set i.toNat z') → Up (Blk v) w w' → kk undef w') : Does P ⟨d, .store te x q, ty, pos, af, g⟩ ρ w kk := by
 obtain ⟨h0, hl, hzx⟩ := at_some hi; obtain ⟨cs, ⟨h1, h1'⟩, h2, h3, h4⟩ := ho; rcases h1' with ⟨rfl, hn⟩ | ⟨gb, cap, cur, rfl, hbg, hg, hnc, hcm, hcs, htk⟩
 ·omega
 ·have hil : i.toNat < xs.length := by omega
  have hfit : i.toNat * k.sz + k.sz ≤ xs.length * k.sz := by rw [← Nat.succ_mul]; exact Nat.mul_le_mul_right _ hil
  have hfit2 : xs.length * k.sz ≤ cap * k.sz := Nat.mul_le_mul_right _ hnc
  have hcl : cur.toList.length = cap * k.sz := by simpa using hcs
  obtain ⟨c, hr, hc⟩ := h2.at i.toNat z hzx; have hcz := k.len hr; have hst := run_storeCells_at P gb (i.toNat * k.sz + off) e [u] 0 cur w hg (by simp; omega) (fun c hc => by simp at hc; subst hc; exact hu)
  have hrun : ∃ r : Array Value, r.toList = cur.toList.set (i.toNat * k.sz + off) u ∧ (execOp (ev ρ) ⟨d, .store te x q, ty, pos, af, g⟩).run P w = .ok .skip (w.setRow gb r) := by
   have hx' : ev ρ x = .pointer (some ⟨gb, i.toNat * k.sz + off, none⟩) := by rw [hx]; simp [sb, so]
   have hse : cur.toList.take (i.toNat * k.sz + off) ++ [u] ++ cur.toList.drop (i.toNat * k.sz + off + 1) = cur.toList.set (i.toNat * k.sz + off) u := by
    rw [List.set_eq_take_append_cons_drop, if_pos (by omega)]; simp
   refine ⟨(cur.toList.set (i.toNat * k.sz + off) u).toArray, by simp, ?_⟩; simp only [Nat.add_zero, List.length_singleton] at hst; rw [hse] at hst; simp only [execOp, Instr.storeAt, Instr.sureAddr, hx', hq, Sem.run_bind, Sem.run_pure, Result.andThen_ok, storeVar, (aggOf_run (w := w) ha).2, cells_one hu]; simp only [List.size_toArray, List.length_singleton, ne_eq, not_true_eq_false, if_false]; simpa using congrArg (fun r => Result.andThen r fun _ w' => Result.ok Next.skip w') hst
  obtain ⟨r, hr1, hrun⟩ := hrun; unfold Does; rw [hrun]; have hset := h2.set hil (hz c hr)
  have hsp : cs.take (i.toNat * k.sz) ++ c.set off u ++ cs.drop (i.toNat * k.sz + k.sz) = cs.set (i.toNat * k.sz + off) u := by
   rw [← hcz]; exact set_in (by rw [hcz]; exact hc) (by omega) (by rw [hcz]; omega)
  rw [hsp] at hset; have up : Up (Blk (.slice (some ⟨gb, 0, none⟩) xs.length cap)) w (w.setRow gb r) := ⟨rfl, rfl, rfl, by simp, fun b _ hb => setRow_other w gb b r fun e => hb (by subst e; rfl)⟩; refine h _ ⟨cs.set (i.toNat * k.sz + off) u, ⟨?_, .inr ⟨gb, cap, r, by rw [List.length_set], hbg, setRow_heap w gb cur r e _ hg, by rw [List.length_set]; exact hnc, hcm, ?_, ?_⟩⟩, ?_, by rw [List.length_set]; exact h3, h4⟩ up
  ·rw [List.length_set, List.length_set, h1]
  ·rw [← Array.length_toList, hr1, List.length_set, hcl]
  ·rw [hr1, List.length_set, ← htk, List.take_set]
  ·exact hset.to (fun _ h => h) (up.sm fun b hb _ hB => h4 b hB hb)
end
end Go.Mg

namespace Go.Mg
open Go
set_option linter.unusedVariables false
def fRaw : Fk Value where
 rep S w c x fp := c = x ∧ c.oneCell' = true ∧ fp = []
 one h := h.2.1
 lt h := by obtain ⟨_, _, rfl⟩ := h; intro b hb; cases hb
 mono h _ _ _ _ _ := h
def fRow {α : Type} (k : Kd α) (e : TypeId) : Fk (List α) where
 rep S w c xs fp := Ow k e S 0 w c xs ∧ fp = bl c
 one h := by
  obtain ⟨⟨cs, ⟨h1, h2⟩, _⟩, _⟩ := h; rcases h2 with ⟨rfl, _⟩ | ⟨g, cap, cur, rfl, _⟩ <;> rfl
 lt h := by
  obtain ⟨h, rfl⟩ := h; intro b hb; exact ⟨(h.lt b (mem_bl.1 hb)).2, h.not b (mem_bl.1 hb)⟩
 mono := fun {S S' w w' c x fp} h hS hS2 hw hf hs => by
  obtain ⟨⟨cs, g1, g2, g3, g4⟩, rfl⟩ := h; refine ⟨⟨cs, ⟨g1.1, ?_⟩, g2.to hS hw, g3, fun b hb => hS2 b (mem_bl.2 hb)⟩, rfl⟩; rcases g1.2 with hn | ⟨g, cap, cur, rfl, hb, hg, rest⟩
  ·exact .inl hn
  ·refine .inr ⟨g, cap, cur, rfl, hb, ?_, rest⟩; rw [hf g (by simp [bl, Value.ownBlock])]; exact hg
def fObj {T : Type} (e : TypeId) (fs : T → List ((α : Type) × Fk α × α)) : Fk (Option T) where
 rep S w c x fp := ∃ cs, Obo e fs S w c x cs fp
 one h := by
  obtain ⟨cs, h⟩ := h; rcases h.nil_iff with ⟨rfl, _⟩ | ⟨y, _, b, fq, rfl, _⟩ <;> rfl
 lt h := by obtain ⟨cs, h⟩ := h; exact h.lt
 mono := fun {S S' w w' c x fp} h hS hS2 hw hf hs => by
  obtain ⟨cs, h⟩ := h; refine ⟨cs, ?_⟩
  cases x with
  | none => exact h
  | some x =>
   obtain ⟨b, fq, rfl, rfl, hn, hb, hk, hff⟩ : Ob e (fs x) S w c cs fp := h; refine (⟨b, fq, rfl, rfl, hn, hS2 b (by simp), ?_, hff.mono hS (fun x hx => hS2 x (by simp [hx])) hw (fun x hx => hf x (by simp [hx])) hs⟩ : Ob e (fs x) S' w' _ cs _); have := hf b (by simp); unfold Bk at hk ⊢; rw [this]; exact hk
theorem Obo.nodup {T : Type} {e : TypeId} {fs : T → List ((α : Type) × Fk α × α)} {S : Nat → Prop} {w : World} {v : Value} {x : Option T} {cs : List Value} {fp : List Nat} (h : Obo e fs S w v x cs fp) : fp.Nodup := by
 cases x with
 | none => obtain ⟨_, rfl, _⟩ := h; exact .nil
 | some x => obtain ⟨b, fq, rfl, rfl, hn, _⟩ : Ob e (fs x) S w v cs fp := h; exact hn
theorem Fs.atK {l : List ((α : Type) × Fk α × α)} {S : Nat → Prop} {w : World} {cs : List Value} {fp : List Nat} (h : Fs l S w cs fp) : ∀ {i : Nat} {α : Type} {k : Fk α} {x : α}, l[i]? = some ⟨α, k, x⟩ →
 ∃ c fa fi fb, cs[i]? = some c ∧ fp = fa ++ fi ++ fb ∧ k.rep S w c x fi ∧
  ∀ {β : Type} {k' : Fk β} {S' : Nat → Prop} {w' : World} {c' : Value} {x' : β} {fi' : List Nat}, k'.rep S' w' c' x' fi' → (∀ b, S b → S' b) → (∀ b ∈ fa ++ fb, ¬ S' b) → Sm S w w' →
   (∀ b ∈ fa ++ fb, w'.heap[b]? = w.heap[b]?) → w.heap.size ≤ w'.heap.size → Fs (l.set i ⟨β, k', x'⟩) S' w' (cs.set i c') (fa ++ fi' ++ fb) := by
 induction h with
 | nil => intro i α k x hx; simp at hx
 | @cons β kk y l S w c cs fp fq h1 h2 ih =>
  intro i α k x hx
  cases i with
  | zero =>
   simp at hx; obtain ⟨rfl, hx⟩ := hx; simp at hx; obtain ⟨rfl, rfl⟩ := hx; refine ⟨c, [], fp, fq, rfl, by simp, h1, fun {β k' S' w' c' x' fi'} h3 hS hS2 hw hf hs => ?_⟩; simp only [List.set_cons_zero, List.nil_append]; exact .cons h3 (h2.mono hS (fun b hb => hS2 b (by simpa using hb)) hw (fun b hb => hf b (by simpa using hb)) hs)
  | succ i =>
   obtain ⟨d, fa, fi, fb, e1, e2, e3, e4⟩ := ih (i := i) (by simpa using hx); refine ⟨d, fp ++ fa, fi, fb, by simpa using e1, by rw [e2]; simp [List.append_assoc], e3, fun {β k' S' w' c' x' fi'} h3 hS hS2 hw hf hs => ?_⟩; simp only [List.set_cons_succ]
   have hin : ∀ b ∈ fa ++ fb, b ∈ fp ++ fa ++ fb := fun b hb => by
    simp only [List.mem_append] at hb ⊢; rcases hb with hb | hb
    ·exact .inl (.inr hb)
    ·exact .inr hb
   have := e4 h3 hS (fun b hb => hS2 b (hin b hb)) hw (fun b hb => hf b (hin b hb)) hs; rw [List.append_assoc, List.append_assoc, ← List.append_assoc fa]; exact .cons (kk.mono h1 hS (fun b hb => hS2 b (by simp [hb])) hw (fun b hb => hf b (by simp [hb])) hs) this
section
variable {e : TypeId} {l : List ((α : Type) × Fk α × α)} {S : Nat → Prop} {w : World} {v : Value} {cs : List Value} {fp : List Nat}
theorem Ob.openF (h : Ob e l S w v cs fp) {i : Nat} {α : Type} {k : Fk α} {x : α} (hi : l[i]? = some ⟨α, k, x⟩) :
 ∃ c fi fp0, cs[i]? = some c ∧ k.rep S w c x fi ∧ Ob e (l.set i ⟨Value, fRaw, c⟩) S w v cs fp0 ∧ (∀ b, b ∈ fp0 → b ∈ fp) ∧ (∀ b, b ∈ fi → b ∈ fp) ∧ ∀ b, b ∈ fp0 → ¬ b ∈ fi := by
 obtain ⟨b, fq, rfl, rfl, hn, hS, hk, hf⟩ := h; have hlt := hf.lt; obtain ⟨c, fa, fi, fb, e1, e2, e3, e4⟩ := hf.atK hi; have hn1 := (List.nodup_cons.1 hn).1; have hn2 := (List.nodup_cons.1 hn).2; rw [e2, List.append_assoc, List.nodup_append] at hn2; obtain ⟨na, nib, nd⟩ := hn2; rw [List.nodup_append] at nib
 have hin : ∀ x ∈ fa ++ fb, x ∈ fq := fun x hx => by rw [e2]; simp at hx ⊢; rcases hx with hx | hx <;> simp [hx]
 have := e4 (k' := fRaw) (S' := S) (w' := w) (c' := c) (x' := c) (fi' := []) ⟨rfl, k.one e3, rfl⟩ (fun _ h => h) (fun x hx => (hlt x (hin x hx)).2) (Sm.refl _ _) (fun _ _ => rfl) (Nat.le_refl _)
 have hcs : cs.set i c = cs := by
  apply List.ext_getElem?
  intro j; rw [List.getElem?_set]
  split
  ·rename_i hij; subst hij; rw [if_pos (List.getElem?_eq_some_iff.1 e1).1, e1]
  ·rfl
 rw [hcs, List.append_nil] at this; refine ⟨c, fi, b :: (fa ++ fb), e1, e3, ⟨b, _, rfl, rfl, List.nodup_cons.2 ⟨fun hm => hn1 (hin b hm), ?_⟩, hS, hk, this⟩, fun x hx => ?_, fun x hx => by rw [e2]; simp [hx], fun x hx hxi => ?_⟩
 ·exact List.nodup_append.2 ⟨na, nib.2.1, fun x hx y hy e => nd x hx y (by simp [hy]) e⟩
 ·rcases List.mem_cons.1 hx with rfl | hx
  ·simp
  ·simp [hin x hx]
 ·rcases List.mem_cons.1 hx with rfl | hx
  ·exact hn1 (by rw [e2]; simp [hxi])
  ·rcases List.mem_append.1 hx with hx | hx
   ·exact nd x hx x (by simp [hxi]) rfl
   ·exact nib.2.2 x hxi x hx rfl
theorem Ob.shutF {fp0 fi : List Nat} {c : Value} (h : Ob e l S w v cs fp0) {i : Nat} {α : Type} {k : Fk α} {x : α} (hi : l[i]? = some ⟨Value, fRaw, c⟩) (hr : k.rep S w c x fi) (hn : fi.Nodup) (hd : ∀ b, b ∈ fp0 → ¬ b ∈ fi) :
 ∃ fp, Ob e (l.set i ⟨α, k, x⟩) S w v cs fp ∧ (∀ b, b ∈ fp → b ∈ fp0 ∨ b ∈ fi) := by
 obtain ⟨b, fq, rfl, rfl, hn0, hS, hk, hf⟩ := h; have hlt := hf.lt; obtain ⟨c', fa, fi', fb, e1, e2, e3, e4⟩ := hf.atK hi; obtain ⟨rfl, hone, rfl⟩ := e3; rw [List.append_nil] at e2; have hn1 := (List.nodup_cons.1 hn0).1; have hn2 := (List.nodup_cons.1 hn0).2; rw [e2, List.nodup_append] at hn2; obtain ⟨na, nb, nd⟩ := hn2; have := e4 (k' := k) (S' := S) (w' := w) (c' := c') (x' := x) (fi' := fi) hr (fun _ h => h) (fun x hx => (hlt x (by rw [e2]; exact hx)).2) (Sm.refl _ _) (fun _ _ => rfl) (Nat.le_refl _)
 have hcs : cs.set i c' = cs := by
  apply List.ext_getElem?
  intro j; rw [List.getElem?_set]
  split
  ·rename_i hij; subst hij; rw [if_pos (List.getElem?_eq_some_iff.1 e1).1, e1]
  ·rfl
 rw [hcs] at this; refine ⟨b :: (fa ++ fi ++ fb), ⟨b, _, rfl, rfl, List.nodup_cons.2 ⟨fun hm => ?_, ?_⟩, hS, hk, this⟩, fun x hx => ?_⟩
 ·simp only [List.mem_append] at hm; rcases hm with (hm | hm) | hm
  ·exact hn1 (by rw [e2]; simp [hm])
  ·exact hd b (by simp) hm
  ·exact hn1 (by rw [e2]; simp [hm])
 ·rw [List.append_assoc]; refine List.nodup_append.2 ⟨na, List.nodup_append.2 ⟨hn, nb, fun x hx y hy e => ?_⟩, fun x hx y hy e => ?_⟩
  ·subst e; exact hd x (by rw [e2]; simp [hy]) hx
  ·rcases List.mem_append.1 hy with hy | hy
   ·subst e; exact hd x (by rw [e2]; simp [hx]) hy
   ·exact nd x hx y hy e
 ·simp only [List.mem_cons, List.mem_append] at hx; rcases hx with rfl | (hx | hx) | hx
  ·exact .inl (by simp)
  ·exact .inl (by rw [e2]; simp [hx])
  ·exact .inr hx
  ·exact .inl (by rw [e2]; simp [hx])
theorem Ob.child {T : Type} {e2 : TypeId} {fs2 : T → List ((α : Type) × Fk α × α)} {y : Option T} (h : Ob e l S w v cs fp) {i : Nat} (hi : l[i]? = some ⟨Option T, fObj e2 fs2, y⟩) :
 ∃ c cs2 fi, cs[i]? = some c ∧ Obo e2 fs2 S w c y cs2 fi ∧ ∀ b, b ∈ fi → b ∈ fp := by
 obtain ⟨c, fi, fp0, h1, ⟨cs2, h2⟩, _, _, h3, _⟩ := h.openF hi; exact ⟨c, cs2, fi, h1, h2, h3⟩
theorem Ob.openO {T : Type} {e2 : TypeId} {fs2 : T → List ((α : Type) × Fk α × α)} {y : Option T} (h : Ob e l S w v cs fp) {i : Nat} (hi : l[i]? = some ⟨Option T, fObj e2 fs2, y⟩) :
 ∃ c cs2 fi fp0, cs[i]? = some c ∧ Obo e2 fs2 S w c y cs2 fi ∧ Ob e (l.set i ⟨Value, fRaw, c⟩) S w v cs fp0 ∧ (∀ b, b ∈ fp0 → b ∈ fp) ∧ (∀ b, b ∈ fi → b ∈ fp) ∧ ∀ b, b ∈ fp0 → ¬ b ∈ fi := by
 obtain ⟨c, fi, fp0, h1, ⟨cs2, h2⟩, h3, h4, h5, h6⟩ := h.openF hi; exact ⟨c, cs2, fi, fp0, h1, h2, h3, h4, h5, h6⟩
theorem Ob.shutO {T : Type} {e2 : TypeId} {fs2 : T → List ((α : Type) × Fk α × α)} {y : Option T} {fp0 fi : List Nat} {c : Value} {cs2 : List Value} (h : Ob e l S w v cs fp0) {i : Nat} (hi : l[i]? = some ⟨Value, fRaw, c⟩) (hr : Obo e2 fs2 S w c y cs2 fi) (hd : ∀ b, b ∈ fp0 → ¬ b ∈ fi) :
 ∃ fp, Ob e (l.set i ⟨Option T, fObj e2 fs2, y⟩) S w v cs fp ∧ (∀ b, b ∈ fp → b ∈ fp0 ∨ b ∈ fi) := h.shutF hi ⟨cs2, hr⟩ hr.nodup hd
theorem Ob.rowR {α : Type} {k : Kd α} {er : TypeId} {xs : List α} (h : Ob e l S w v cs fp) {i : Nat} (hi : l[i]? = some ⟨_, fRow k er, xs⟩) :
 ∃ c, cs[i]? = some c ∧ Ow k er S 0 w c xs ∧ ∀ b, Blk c b → b ∈ fp ∧ b ≠ pb v ∧ True := by
 have hv := h; obtain ⟨c, fi, fp0, h1, ⟨h2, rfl⟩, h3, h4, h5, h6⟩ := h.openF hi; refine ⟨c, h1, h2, fun b hb => ⟨h5 b (mem_bl.2 hb), fun e => ?_, trivial⟩⟩; subst e; obtain ⟨b0, fq, rfl, rfl, _⟩ := h3; exact h6 b0 (by simp) (mem_bl.2 hb)
end
section
variable {P : Program} {e te er : TypeId} {l : List ((α : Type) × Fk α × α)} {S : Nat → Prop} {w w1 : World} {v u r : Value} {cs : List Value} {fp : List Nat} {ρ : En} {d : Option Tmp} {ty : TypeId} {pos : String} {af : Array Edge} {g : Option (Nat × Bool)} {x y : Operand} {kk : Value → World → Prop}
theorem dc_ofieldR {α : Type} {k : Kd α} {xs0 xs : List α} (h : Ob e l S w v cs fp) {i : Nat} (hi : l[i]? = some ⟨_, fRow k er, xs0⟩) (hc : cs[i]? = some r) (up : Up (Blk r) w w1) (hu : Ow k er S 0 w1 u xs) (hub : ∀ b, Blk u b → Blk r b ∨ b ∉ fp)
 (ha : aggOf P te = some (false, 1)) (hx : ev ρ x = .pointer (some ⟨pb v, i, none⟩)) (hy : ev ρ y = u)
 (hk : ∀ w' fp', Ob e (l.set i ⟨_, fRow k er, xs⟩) S w' v (cs.set i u) fp' → (∀ b, b ∈ fp' → b ∈ fp ∨ Blk u b) → Up (fun b => b ∈ fp) w w' → kk undef w') : Does P ⟨d, .store te x y, ty, pos, af, g⟩ ρ w1 kk := by
 have hil : i < l.length := (List.getElem?_eq_some_iff.1 hi).1; obtain ⟨c, fi, fp0, h1, ⟨h2, rfl⟩, h3, h4, h5, h6⟩ := h.openF hi; rw [hc] at h1; cases h1
 have hpfp : pb v ∈ fp := by obtain ⟨b, fq, rfl, rfl, _⟩ := h; simp [pb]
 have h3' := h3.up' up (fun _ h => h) (fun b hb => (h3.lt b hb).2) (fun b hb _ hbr => h2.not b hbr hb) fun b hb hbr => h6 b hb (mem_bl.2 hbr); have hone := (fRow k er).one ⟨hu, rfl⟩; obtain ⟨b, fq, rfl, rfl, hn, hS, hbk, hf⟩ := h3'; have hlt := hf.lt; obtain ⟨c0, fa, fi, fb, e1, e2, e3, e4⟩ := hf.atK (i := i) (k := fRaw) (x := r) (by rw [List.getElem?_set_self hil]); have hfi : fi = [] := e3.2.2; subst hfi; rw [List.append_nil] at e2; have hlc : i < cs.length := (List.getElem?_eq_some_iff.1 e1).1
 have hset : cs.take i ++ [u] ++ cs.drop (i + 1) = cs.set i u := by rw [List.set_eq_take_append_cons_drop, if_pos hlc]; simp
 refine dc_store (vs := [u]) (cs := cs) (e0 := e) ha hbk hx (by rw [hy]; exact cells_one hone) (fun c hc => by simp at hc; subst hc; exact hone) rfl (Nat.ble_eq_true_of_le (by omega)) hset fun w' up2 _ hb' => ?_
 have hsm : Sm S w1 w' := up2.sm fun q hq _ hqi => by
  have hqi : q = b := hqi; subst hqi; exact hS hq
 have hfa : ∀ x ∈ fa ++ fb, x ∈ fq := fun x hx => by rw [e2]; exact hx
 have hn1 := (List.nodup_cons.1 hn).1
 have hF := e4 (k' := fRaw) (S' := S) (w' := w') (c' := u) (x' := u) (fi' := []) ⟨rfl, hone, rfl⟩ (fun _ h => h) (fun x hx => (hlt x (hfa x hx)).2) hsm
  (fun q hq => up2.block q (hlt q (hfa q hq)).1 fun hqb => by
   have hqb : q = b := hqb; subst hqb
   exact hn1 (hfa q hq)) up2.size
 rw [List.append_nil, List.set_set, ← e2] at hF; have hO : Ob e (l.set i ⟨Value, fRaw, u⟩) S w' (.pointer (some ⟨b, 0, none⟩)) (cs.set i u) (b :: fq) := ⟨b, fq, rfl, rfl, hn, hS, hb', hF⟩; have hbu : ¬ Blk u b := fun hq => (hub b hq).elim (fun h => h6 b (by simp) (mem_bl.2 h)) fun h => h hpfp
 have hu' : Ow k er S 0 w' u xs := hu.to up2 (fun q hq _ hqb => by have hqb : q = b := hqb; rw [hqb] at hq; exact hS hq) fun q hq hqb => by have hqb : q = b := hqb; rw [hqb] at hq; exact hbu hq
 obtain ⟨fp', hO', hsub⟩ := hO.shutF (i := i) (k := fRow k er) (x := xs) (c := u) (by rw [List.getElem?_set_self hil]) ⟨hu', rfl⟩ (bl_nodup u) (fun q hq hqu => by
  rcases hub q (mem_bl.1 hqu) with h1 | h1
  ·exact h6 q hq (mem_bl.2 h1)
  ·exact h1 (h4 q hq))
 rw [List.set_set] at hO'; refine hk w' fp' hO' (fun q hq => (hsub q hq).imp (h4 q) mem_bl.1) ?_
 exact (up.mono fun q _ hq => h5 q (mem_bl.2 hq)).then up2 fun q _ hq => by have hq : q = b := hq; subst hq; exact hpfp
theorem dc_ofieldN {α : Type} {k : Kd α} {xs0 xs : List α} (h : Ob e l S w v cs fp) {i : Nat} (hi : l[i]? = some ⟨_, fRow k er, xs0⟩) (hu : Ow k er S 0 w u xs) (hub : ∀ b, Blk u b → b ∉ fp)
 (ha : aggOf P te = some (false, 1)) (hx : ev ρ x = .pointer (some ⟨pb v, i, none⟩)) (hy : ev ρ y = u)
 (hk : ∀ w' fp', Ob e (l.set i ⟨_, fRow k er, xs⟩) S w' v (cs.set i u) fp' → (∀ b, b ∈ fp' → b ∈ fp ∨ Blk u b) → Up (fun b => b ∈ fp) w w' → kk undef w') : Does P ⟨d, .store te x y, ty, pos, af, g⟩ ρ w kk := by
 obtain ⟨c, hc⟩ := h.at hi; exact dc_ofieldR h hi hc (Up.refl _ _) hu (fun b hb => .inr (hub b hb)) ha hx hy hk
end
section
variable {α : Type} {k : Kd α} {S S' F S1 : Nat → Prop} {w w' : World} {c u v o : Value} {xs ys : List α} {e base : Nat}
variable {P : Program}
end
theorem Src.nw {α : Type} {k : Kd α} {S : Nat → Prop} {w w1 : World} {u : Value} {ys : List α} (h : Src k S w u ys) (hu : Up No w w1) : Src k S w1 u ys := by
 obtain ⟨A, c, rfl, h⟩ := h; refine ⟨A, c, rfl, h.imp id fun ⟨b, off, hA, hr⟩ => ⟨b, off, hA, hr.to (fun _ h => h) hu.sm0 fun hb => hu.block b hb fun h => h⟩⟩
theorem ap_or {A B D E : Nat → Prop} (h : ∀ b, E b → A b ∨ B b) (h1 : ∀ b, A b → ¬ D b) (h2 : ∀ b, B b → ¬ D b) : ∀ b, E b → ¬ D b := fun b hb hd => (h b hb).elim (fun h => h1 b h hd) fun h => h2 b h hd
end Go.Mg

namespace Go.Mg
open Go
set_option linter.unusedVariables false
section
variable {P : Program} {n : String} {k : IntKind} {zs : List Int} {S S1 F : Nat → Prop} {w w1 : World} {u : Value}
end
end Go.Mg

namespace Go.Mg
open Go
set_option linter.unusedVariables false
section
variable {P : Program} {N : Nat} {ρ : En} {w : World}
def ResC (P : Program) (c : Tmp) (t : TypeId) (R : Ending → World → Prop) (ρ : En) (w : World) : Prop :=
 ∃ a v, ρ c = .pointer (some a) ∧ (loadVar t a).run P w = .ok v w ∧ R (.returned v) w
theorem results_cell {fn : Func} {a : Act} {c : Tmp} {t : TypeId} {ad : Addr} {v : Value} (ha : Ag a N ρ) (hr : fn.results = #[.cell c t]) (hp : ρ c = .pointer (some ad)) (hl : (loadVar t ad).run P w = .ok v w) :
 (results fn a.tmps).run P w = .ok v w := by
 unfold results; rw [hr, show (#[ResultVar.cell c t] : Array ResultVar) = [ResultVar.cell c t].toArray from rfl, List.mapM_toArray]; simp [ha.g, hp, hl, asAddr]
theorem enterC {f : FuncId} {fn : Func} {c : Code} {x : Tmp} {t : TypeId} {args : List Value} {R : Ending → World → Prop} (hf : P.funcs[f]? = some fn) (hb : fn.body = some c)
 (hok : okN fn.ntmps c = true) (hsz : Nat.ble args.length fn.ntmps = true) (hr : fn.results = #[.cell x t])
 (h : CW P fn.ntmps c ⟨ResC P x t R, ResC P x t R, []⟩ (fun t => args.getD t undef) w) : Calls P f args.toArray w R := by
 refine calls_of_wp hf hb ?_; have hle : args.length ≤ fn.ntmps := Nat.le_of_ble_eq_true hsz; refine Code.wp_mono ?_ (h hok ⟨args.toArray ++ Array.replicate (fn.ntmps - args.toArray.size) undef, []⟩ ⟨rfl, by simp; omega, fun t => ?_⟩)
 ·rintro e a' w' ⟨ρ', hg, hq⟩
  cases e with
  | normal => obtain ⟨ad, v, h1, h2, h3⟩ := hq; exact ⟨hg.d, v, results_cell hg hr h1 h2, h3⟩
  | ret => obtain ⟨ad, v, h1, h2, h3⟩ := hq; exact ⟨hg.d, v, results_cell hg hr h1 h2, h3⟩
  | exit i => exact hq.elim
  | _ => exact hq.elim
 ·simp only [Array.getD_eq_getD_getElem?, List.getD_eq_getElem?_getD]
  by_cases ht : t < args.length
  ·rw [Array.getElem?_append_left (by simpa using ht)]; simp
  ·rw [Array.getElem?_append_right (by simpa using Nat.le_of_not_lt ht)]; rw [List.getElem?_eq_none (Nat.le_of_not_lt ht)]; rw [Array.getElem?_replicate]
   split <;> rfl
theorem Ow.res {α : Type} {k : Kd α} {e by_ b : Nat} {S : Nat → Prop} {base : Nat} {x : α} (el : Ty P k e by_) (h : Ow k e S base w (.slice (some ⟨b, 0, none⟩) 1 1) [x]) :
 ∃ r, Sl k S w r x ∧ (loadVar e ⟨b, 0, none⟩).run P w = .ok r w := by
 obtain ⟨cs, hr, hc⟩ := h.cellsO (i := 0) (show at_ [x] 0 = some x from rfl); refine ⟨k.val cs, ⟨cs, rfl, hr⟩, ?_⟩; refine run_loadTy el (k.len hr) rfl fun j c hj => ?_; have := hc w (Sm.refl _ _) j c hj; simpa [sb, so] using this
end
theorem Ow.toBk {α : Type} {k : Kd α} {e b : Nat} {S : Nat → Prop} {w : World} {base : Nat} {x : α} (h : Ow k e S base w (.slice (some ⟨b, 0, none⟩) 1 1) [x]) : ∃ cs, k.rep S w cs x ∧ Bk w b cs e := by
 obtain ⟨cs, ⟨h1, h1'⟩, h2, h3, h4⟩ := h; rcases h1' with ⟨h, _⟩ | ⟨g, cap, cur, heq, hbg, hg, hnc, hcm, hcs, htk⟩
 ·cases h
 ·cases heq
  have hr : ∃ c, k.rep S w c x ∧ cs = c := by
   cases h2 with
   | cons hr ht => cases ht; exact ⟨_, hr, by simp⟩
  obtain ⟨c, hr, rfl⟩ := hr; refine ⟨cs, hr, ?_⟩; have hl := k.len hr
  have e1 : cur.toList = cs := by
   rw [← htk, List.take_of_length_le]; simp [hcs]
  unfold Bk; rw [← e1]; simpa using hg
theorem Obo.form {T : Type} {e : TypeId} {fs : T → List ((α : Type) × Fk α × α)} {S : Nat → Prop} {w : World} {v : Value} {x : Option T} {cs : List Value} {fp : List Nat} (h : Obo e fs S w v x cs fp) : ∃ p, v = .pointer p :=
 h.ne.elim (fun h => ⟨_, h.1⟩) fun h => ⟨_, h.1⟩
end Go.Mg

namespace Go.Mg
open Go
set_option linter.unusedVariables false
set_option linter.unusedSimpArgs false
section
variable {P : Program} {ρ : En} {w : World} {d : Option Tmp} {ty : TypeId} {pos : String} {af : Array Edge} {g : Option (Nat × Bool)} {x y : Operand} {kk : Value → World → Prop}
def nif (P : Program) (t : TypeId) : Bool := match P.underlying t with | some (.interface _) => false | some _ => true | none => false
theorem nif_run {t : TypeId} (h : nif P t = true) : ∃ d, P.underlying t = some d ∧ ∀ m, d ≠ .interface m := by
 unfold nif at h; cases hu : P.underlying t with
 | none => rw [hu] at h; cases h
 | some d =>
  rw [hu] at h; exact ⟨d, rfl, fun m hm => by subst hm; cases h⟩
theorem rv_mkif {t : TypeId} {v : Value} (h : nif P t = true) (hx : ev ρ x = v) : Rv P ⟨d, .makeInterface t x, ty, pos, af, g⟩ ρ (.iface t v) := fun w => by
 obtain ⟨de, h1, h2⟩ := nif_run h; simp only [execOp, Instr.makeInterface, hx, Sem.run_bind, run_underlying h1, Result.andThen_ok]
 cases de with
 | interface m => exact absurd rfl (h2 m)
 | _ => rfl
theorem rv_assert {t xt : TypeId} {v : Value} (h : nif P t = true) (hx : ev ρ x = .iface t v) : Rv P ⟨d, .typeAssert x xt t false, ty, pos, af, g⟩ ρ v := fun w => by
 obtain ⟨de, h1, h2⟩ := nif_run h; simp only [execOp, Instr.typeAssert, hx, Sem.run_bind, run_underlying h1, Result.andThen_ok]
 cases de with
 | interface m => exact absurd rfl (h2 m)
 | _ => simp
def mrow (P : Program) (t : TypeId) (n : String) : Option (FuncId × Bool) :=
 (P.info? t).bind fun i => (i.methods.find? (·.name == n)).bind fun m => if m.path.isEmpty then m.func else none
theorem mrow_run {t : TypeId} {n : String} {f : FuncId} {b : Bool} (h : mrow P t n = some (f, b)) (v : Value) (k : Nat) :
 ∃ nm, (method (k + 1) t v n).run P w = ((receiverAt t (.val v) b (some nm)).run P w).andThen fun r w' => .ok (f, r) w' := by
 unfold mrow at h; cases hi : P.info? t with
 | none => rw [hi] at h; cases h
 | some i =>
  rw [hi] at h; simp only [Option.bind_some] at h; cases hm : i.methods.find? (·.name == n) with
  | none => rw [hm] at h; cases h
  | some m =>
   rw [hm] at h; simp only [Option.bind_some] at h
   split at h
   case isFalse => cases h
   rename_i hp
   have hp3 : m.path = #[] := by simpa using hp
   have hp2 : m.path.toList = [] := by rw [hp3]
   refine ⟨(n.splitOn ".").getLastD n, ?_⟩; simp [method, typeInfo, hi, hm, hp3, follow, h]
theorem can_run {f : FuncId} (hc : yi P f = true) (args : Array Value) : (callFunc f args).run P w = .ok (.enter f args) w := by
 unfold yi at hc; cases hf : P.funcs[f]? with
 | none => rw [hf] at hc; cases hc
 | some fn =>
  rw [hf] at hc; simp only [Bool.and_eq_true, bne_iff_ne, ne_eq] at hc; obtain ⟨h1, h2⟩ := hc
  have hbn : fn.body.isNone = false := by cases hb : fn.body with
   | none => rw [hb] at h2; cases h2
   | some _ => rfl
  simp only [callFunc, Sem.run_bind, Sem.run_pure, Result.andThen_ok, program, Sem.run, hf, hbn]; simp [h1]
theorem dc_inv {n : String} {t : TypeId} {f : FuncId} {b : Bool} {v r : Value} {as : List Operand} {ts : Array TypeId} {vs : List Value} (hm : mrow P t n = some (f, b)) (hc : yi P f = true) (hx : ev ρ x = .iface t v) (hv : as.map (ev ρ) = vs)
 (hr : ∀ nm, (receiverAt t (.val v) b (some nm)).run P w = .ok r w) (h : Calls P f (r :: vs).toArray w fun e w' => ∃ v, e = .returned v ∧ kk v w') :
 Does P ⟨d, .call { callee := .invoke x n, args := as.toArray, argTypes := ts }, ty, pos, af, g⟩ ρ w kk := by
 subst hv; obtain ⟨nm, hm2⟩ := mrow_run (w := w) hm v (P.types.size + Made.depth - 1)
 have hp : 0 < Made.depth := by decide
 have hd : P.types.size + Made.depth - 1 + 1 = P.types.size + Made.depth := by omega
 rw [hd, hr nm] at hm2
 have hrun : (execOp (ev ρ) ⟨d, .call { callee := .invoke x n, args := as.toArray, argTypes := ts }, ty, pos, af, g⟩).run P w = .ok (.enter f (r :: as.map (ev ρ)).toArray) w := by
  have e1 : (#[Value.iface t v] ++ (as.map (ev ρ)).toArray)[0]? = some (Value.iface t v) := by simp
  have e2 : (#[Value.iface t v] ++ (as.map (ev ρ)).toArray).extract 1 (#[Value.iface t v] ++ (as.map (ev ρ)).toArray).size = (as.map (ev ρ)).toArray := by
   apply Array.ext'
   simp [List.take_of_length_le]
  have hpr : program.run P w = .ok P w := rfl; have hcf := can_run (w := w) hc (#[r] ++ (as.map (ev ρ)).toArray)
  have e3 : #[r] ++ (as.map (ev ρ)).toArray = (r :: as.map (ev ρ)).toArray := by apply Array.ext'; simp
  rw [e3] at hcf; simp only [execOp, resolve, invoke, Sem.run_bind, Sem.run_pure, Result.andThen_ok, hx, List.map_toArray, e1, e2, callMethod, hpr, hm2, e3, hcf]
 unfold Does; rw [hrun]; exact h
theorem recvP {t te : TypeId} {v : Value} (ht : P.underlying t = some (.pointer te)) (nm : String) : (receiverAt t (.val v) true (some nm)).run P w = .ok v w := by
 simp [receiverAt, run_underlying ht, Place.get]
theorem run_load1 {te : TypeId} {b o : Nat} {c : Value} (ha : aggOf P te = some (false, 1)) (hc : w.cell? ⟨b, o, none⟩ = some c) : (loadVar te ⟨b, o, none⟩).run P w = .ok c w := by
 simp only [loadVar, Sem.run_bind, (aggOf_run (w := w) ha).1, Result.andThen_ok]; simp [load, Sem.run, hc]
theorem ssa_ok (ts : Array TypeId) (t : TypeId) (a : Addr) (x y : String) : (Builtin.ssaWrapNilChk_ ts t #[.pointer (some a), strVal x, strVal y]).run P w = .ok (.pointer (some a)) w := rfl
theorem recvV {t te : TypeId} {b : Nat} {c : Value} (ht : P.underlying t = some (.pointer te)) (ha : aggOf P te = some (false, 1)) (hc : w.cell? ⟨b, 0, none⟩ = some c) (nm : String) :
 (receiverAt t (.val (.pointer (some ⟨b, 0, none⟩))) false (some nm)).run P w = .ok c w := by
 have h := run_load1 (P := P) ha hc; simp [receiverAt, run_underlying ht, Place.get, ssa_ok, asAddr, h]
variable {e er : TypeId} {l : List ((α : Type) × Fk α × α)} {S S1 : Nat → Prop} {w1 : World} {v : Value} {cs : List Value} {fp : List Nat}
theorem Ob.recv {t te : TypeId} (h : Ob e l S w v cs fp) {c : Value} (hc : cs[0]? = some c) (ht : P.underlying t = some (.pointer te)) (ha : aggOf P te = some (false, 1)) (nm : String) : (receiverAt t (.val v) false (some nm)).run P w = .ok c w := by
 obtain ⟨b, fq, rfl, rfl, hn, hS, hk, hf⟩ := h; exact recvV ht ha ((hk.cell 0).trans hc) nm
theorem Ob.rowM {α : Type} {k : Kd α} {base : Nat} {xs ys : List α} (h : Ob e l S w v cs fp) {i : Nat} {c : Value} (hi : l[i]? = some ⟨_, fRow k er, xs⟩) (hc : cs[i]? = some c) (cx : Cx (Blk c) S w S1 w1) (ho : Ow k er S1 base w1 c ys) :
 ∃ fp1, Ob e (l.set i ⟨_, fRow k er, ys⟩) S1 w1 v cs fp1 ∧ ∀ b, b ∈ fp1 → b ∈ fp := by
 obtain ⟨c', fi, fp0, h1, ⟨h2, rfl⟩, h3, h4, h5, h6⟩ := h.openF hi; rw [hc] at h1; cases h1; have hil : i < l.length := (List.getElem?_eq_some_iff.1 hi).1; have h3' : Ob e (l.set i ⟨Value, fRaw, c⟩) S1 w1 v cs fp0 := h3.up cx.up cx.ge.le cx.ge.ge (fun b hb _ hbr => h2.not b hbr hb) fun b hb hbr => h6 b hb (mem_bl.2 hbr); obtain ⟨fp', hO, hs⟩ := h3'.shutF (i := i) (k := fRow k er) (x := ys) (c := c) (by rw [List.getElem?_set_self hil]) ⟨ho.base (Nat.zero_le _), rfl⟩ (bl_nodup c) h6; rw [List.set_set] at hO; exact ⟨fp', hO, fun b hb => (hs b hb).elim (h4 b) (h5 b)⟩
theorem Bk.obR {α : Type} {k : Kd α} {b : Nat} (h : Bk w b [.slice none 0 0] e) (hS : ¬ S b) : Ob e [⟨_, fRow k er, ([] : List α)⟩] S w (.pointer (some ⟨b, 0, none⟩)) [.slice none 0 0] [b] := by
 refine ⟨b, [], rfl, rfl, by simp, hS, h, ?_⟩; have := Fs.cons (k := fRow k er) (x := ([] : List α)) (S := S) (w := w) (c := .slice none 0 0) (fp := []) ⟨Ow.nil k er S 0 w, rfl⟩ Fs.nil; simpa using this
end
end Go.Mg

namespace Go.Mg
open Go
set_option linter.unusedVariables false
section
variable {P : Program} {α : Type} {k : Kd α} {e er : TypeId} {S : Nat → Prop} {w w' : World} {ρ : En} {x y : Operand} {d : Option Tmp} {ty : TypeId} {pos : String} {af : Array Edge} {g : Option (Nat × Bool)} {kk : Value → World → Prop} {cs : List Value} {fp : List Nat} {v : Value} {b n : Nat}
def rrs (k : Kd α) (er : TypeId) (xss : List (List α)) : List ((β : Type) × Fk β × β) := xss.map fun xs => ⟨_, fRow k er, xs⟩
theorem rrs_at {xss : List (List α)} {i : Int} {xs : List α} (h : at_ xss i = some xs) : (rrs k er xss)[i.toNat]? = some ⟨_, fRow k er, xs⟩ := by
 obtain ⟨_, _, h3⟩ := at_some h; unfold rrs; rw [List.getElem?_map, h3]
 rfl
theorem rrs_set {xss : List (List α)} {i : Nat} {xs : List α} : (rrs k er xss).set i ⟨_, fRow k er, xs⟩ = rrs k er (xss.set i xs) := by
 unfold rrs; rw [List.map_set]
theorem dc_make2 {t : TypeId} {kl kc : IntKind} (ht : P.underlying t = some (.slice e)) (hi : (P.info? e).map (fun i => (i.zero, i.size, i.bytes)) = some (some (.slice none 0 0), 1, 24)) (hx : ev ρ x = .int kl 2) (hy : ev ρ y = .int kc 2) (hS : Sb S w)
 (h : ∀ b w', Ob e (rrs k er [[], []]) S w' (.pointer (some ⟨b, 0, none⟩)) [.slice none 0 0, .slice none 0 0] [b] → w.heap.size ≤ b → Up No w w' → kk (.slice (some ⟨b, 0, none⟩) 2 2) w') :
 Does P ⟨d, .makeSlice t x y, ty, pos, af, g⟩ ρ w kk := by
 obtain ⟨i, h1, h2⟩ := Option.map_eq_some_iff.1 hi; simp only [Prod.mk.injEq] at h2; obtain ⟨hz, hsz, hby⟩ := h2; have hb : i.bytes = 24 := hby; have hq := run_make w t e i (.slice none 0 0) ht h1 hz kl kc 2 2 (by decide) (by decide) (by rw [hb]; decide) (by decide)
 have hrun : (execOp (ev ρ) ⟨d, .makeSlice t x y, ty, pos, af, g⟩).run P w = .ok (.value (.slice (some ⟨w.heap.size, 0, none⟩) 2 2)) (w.alloc (.cells #[.slice none 0 0, .slice none 0 0] e)) := by
  simp only [execOp, hx, hy, Sem.run_bind, hq, Result.andThen_ok]; rw [hsz]
  have hm : madeCells (Value.slice none 0 0).cells (Int.toNat 2 * 1) = #[.slice none 0 0, .slice none 0 0] := by
   apply Array.ext'
   unfold madeCells; rw [Array.toList_map, Array.toList_range]
   rfl
  rw [hm]
  rfl
 unfold Does; rw [hrun]; refine h w.heap.size _ ⟨w.heap.size, [], rfl, rfl, by simp, fun hs => absurd (hS _ hs) (Nat.lt_irrefl _), heap_alloc_new w _, ?_⟩ (Nat.le_refl _) (Up.alloc _ _ _); have f1 : ∀ w : World, Fk.rep (fRow k er) S w (.slice none 0 0) ([] : List α) [] := fun w => ⟨Ow.nil k er S 0 w, rfl⟩; have := Fs.cons (f1 (w.alloc (.cells #[.slice none 0 0, .slice none 0 0] e))) (Fs.cons (f1 (w.alloc (.cells #[.slice none 0 0, .slice none 0 0] e))) Fs.nil); simpa [rrs] using this
theorem Ow.orT {S T : Nat → Prop} {w : World} {v : Value} {base : Nat} {xs : List α} (o : Ow k e S base w v xs) (ap : ∀ b, Blk v b → ¬ T b) : Ow k e (Or S T) base w v xs :=
 let ⟨cs, h1, h2, h3, h4⟩ := o
 ⟨cs, h1, h2.to (fun _ h => .inl h) (Sm.refl _ _), h3, fun b hb hs => hs.elim (h4 b hb) (ap b hb)⟩
def RR (e : TypeId) (k : Kd α) (er : TypeId) (S : Nat → Prop) (w : World) (v : Value) (xss : List (List α)) (cs : List Value) (fp : List Nat) : Prop := Ob e (rrs k er xss) S w v cs fp ∧ xss.length = 2
variable {xss : List (List α)} {S1 F T : Nat → Prop} {w1 : World} {u : Value}
theorem RR.lt (h : RR e k er S w v xss cs fp) : ∀ b ∈ fp, b < w.heap.size ∧ ¬ S b := h.1.lt
theorem RR.nw (h : RR e k er S w v xss cs fp) (hu : Up No w w1) : RR e k er S w1 v xss cs fp := ⟨h.1.nw hu, h.2⟩
theorem RR.cx (h : RR e k er S w v xss cs fp) (c : Cx No S w S1 w1) : RR e k er S1 w1 v xss cs fp := ⟨h.1.cx c, h.2⟩
theorem RR.wr (h : RR e k er S w v xss cs fp) (hu : Up (Blk u) w w1) (hn : ∀ b, Blk u b → ¬ S b) (hf : ∀ b ∈ fp, ¬ Blk u b) : RR e k er S w1 v xss cs fp := ⟨h.1.wr hu hn hf, h.2⟩
theorem RR.cf (h : RR e k er S w v xss cs fp) (c : Cx F S w S1 w1) (hF : ∀ b, F b → ¬ S b) (ha : ∀ b, b ∈ fp → ¬ F b) : RR e k er S1 w1 v xss cs fp := ⟨h.1.cf c hF ha, h.2⟩
theorem rv_indexRR {t : TypeId} {ik : IntKind} {i : Int} {xs : List α} (h : RR e k er S w v xss cs fp) (ht : P.underlying t = some (.slice e)) (ha : aggOf P e = some (false, 1)) (hx : ev ρ x = .slice (some ⟨b, 0, none⟩) 2 2) (hy : ev ρ y = .int ik i) (hi : at_ xss i = some xs) :
 Rv P ⟨d, .indexAddr t x y, ty, pos, af, g⟩ ρ (.pointer (some ⟨b, i.toNat, none⟩)) := fun w => by
 obtain ⟨h0, h1, _⟩ := at_some hi; have h2 := h.2; have hs := (aggOf_run (w := w) ha).2; simp only [execOp, hx, hy, Instr.indexAt, asIntOf, Sem.run_bind, Sem.run_pure, Result.andThen_ok, underlying, program, Sem.run, ht]; rw [if_pos ⟨h0, by omega⟩]; simp only [Sem.run_bind, hs, Result.andThen_ok, Sem.run_pure, addr_add, Nat.mul_one, Nat.zero_add]
theorem RR.set {i : Nat} {xs : List α} (h : Ob e ((rrs k er xss).set i ⟨_, fRow k er, xs⟩) S w v cs fp) (hn : xss.length = 2) : RR e k er S w v (xss.set i xs) cs fp := ⟨by rw [← rrs_set]; exact h, by rw [List.length_set]; exact hn⟩
theorem rrs_rows {S : Nat → Prop} {w : World} : ∀ {xss : List (List α)} {cs : List Value} {fq : List Nat}, Fs (rrs k er xss) S w cs fq → cs.length = xss.length ∧ ∀ (i : Nat) (xs : List α), xss[i]? = some xs → ∃ c, cs[i]? = some c ∧ Ow k er S 0 w c xs ∧ ∀ b, Blk c b → b ∈ fq
 | [], _, _, .nil => ⟨rfl, fun i xs h => by simp at h⟩
 | xs :: xss, _, _, .cons (c := c) (fp := fp) (fq := fq) h1 h2 => by
  obtain ⟨h3, h4⟩ := rrs_rows h2; refine ⟨by simp [h3], fun i ys hi => ?_⟩
  cases i with
  | zero =>
   simp at hi; subst hi; refine ⟨_, rfl, h1.1, fun b hb => List.mem_append.2 (.inl ?_)⟩; have h5 : fp = bl c := h1.2; rw [h5]; exact mem_bl.2 hb
  | succ i =>
   obtain ⟨c', e1, e2, e3⟩ := h4 i ys (by simpa using hi); exact ⟨c', by simpa using e1, e2, fun b hb => List.mem_append.2 (.inr (e3 b hb))⟩
theorem RR.seal (h : RR e k er S w (.pointer (some ⟨b, 0, none⟩)) xss cs fp) : Sl (kSl (kSl k)) (Or S (fun q => q ∈ fp)) w (.slice (some ⟨b, 0, none⟩) 2 2) xss := by
 obtain ⟨⟨b', fq, hv, rfl, hn, hS, hk, hf⟩, hl⟩ := h; cases hv; obtain ⟨h1, h2⟩ := rrs_rows hf; refine sl_slice.2 ⟨_, 2, by rw [hl], by omega, by rw [hl]; decide, .inr ⟨b, 0, rfl, .inr (by simp), fun i xs hi => ?_⟩⟩; obtain ⟨c, e1, e2, e3⟩ := h2 i xs hi; refine ⟨[c], rep_sl.2 ⟨c, rfl, (e2.sealed).in fun q hq => hq.imp id fun hb => List.mem_cons_of_mem _ (e3 q hb)⟩, fun j z hj => ?_⟩
 have hj0 : j = 0 := by have := (List.getElem?_eq_some_iff.1 hj).1; simp at this; exact this
 subst hj0; simp at hj; subst hj; have hz : (kSl k).sz = 1 := rfl; rw [hz, show 0 + i * 1 + 0 = i by omega]; exact (hk.cell i).trans e1
end
end Go.Mg

namespace Go.Mg
open Go
set_option linter.unusedVariables false
def kCs (n : Nat) : Kd (List Value) where
 sz := n
 agg := true
 rep S w cs x := cs = x ∧ cs.length = n ∧ ∀ c ∈ cs, c.oneCell' = true
 len h := h.2.1
 one h := h.2.2
 mono h _ _ := h
 sg h := by cases h
theorem ocn : ∀ x ∈ ([] : List Value), x.oneCell' = true := fun _ h => absurd h List.not_mem_nil
theorem oc {c : Value} {cs : List Value} (h : c.oneCell' = true) (hs : ∀ x ∈ cs, x.oneCell' = true) : ∀ x ∈ c :: cs, x.oneCell' = true := fun x hx => (List.mem_cons.1 hx).elim (fun e => by rw [e]; exact h) (hs x)
section
variable {P : Program} {α : Type} {k : Kd α} {e by_ n base : Nat} {S : Nat → Prop} {w : World} {v : Value} {x : α}
theorem Ow.form {xs : List α} (h : Ow k e S base w v xs) : ∃ a n c, v = .slice a n c := by
 obtain ⟨cs, ⟨h1, h2⟩, _⟩ := h; rcases h2 with ⟨rfl, _⟩ | ⟨gb, cap, cur, rfl, _⟩
 ·exact ⟨_, _, _, rfl⟩
 ·exact ⟨_, _, _, rfl⟩
theorem Ty.raw (h : Ty P k e by_) (ha : k.agg = true) (hn : k.sz = n) : Ty P (kCs n) e by_ := by
 subst hn; exact ⟨h.hi, h.hs, by rw [h.ag, ha]; rfl⟩
theorem Ow.raw (h : Ow k e S base w v [x]) (hn : k.sz = n) : ∃ cs, Ow (kCs n) e S base w v [cs] ∧ k.rep S w cs x := by
 subst hn; obtain ⟨cs, h1, h2, h3, h4⟩ := h
 obtain ⟨ds, hd, rfl⟩ : ∃ ds, k.rep S w ds x ∧ cs = ds := by
  cases h2 with
  | cons hr ht => cases ht; exact ⟨_, hr, by simp⟩
 exact ⟨cs, ⟨cs, h1, by simpa using Chk.cons (k := kCs k.sz) (S := S) (w := w) ⟨rfl, k.len hd, k.one hd⟩ Chk.nil, h3, h4⟩, hd⟩
theorem sl_raw {cs : List Value} (h : ∀ c ∈ cs, c.oneCell' = true) (hl : cs.length = n) : Sl (kCs n) S w (.agg cs.toArray) cs := ⟨cs, rfl, rfl, hl, h⟩
theorem raw_sl {cs : List Value} (h : Sl (kCs n) S w v cs) : v = .agg cs.toArray := by
 obtain ⟨ds, rfl, rfl, _⟩ := h; rfl
theorem raw_set {cs y : List Value} {i : Nat} {u : Value} (hu : u.oneCell' = true) (h : (kCs n).rep S w cs y) : (kCs n).rep S w (cs.set i u) (y.set i u) := by
 obtain ⟨rfl, h1, h2⟩ := h; exact ⟨rfl, by rw [List.length_set]; exact h1, fun c hc => (List.mem_or_eq_of_mem_set hc).elim (h2 c) fun e => by rw [e]; exact hu⟩
end
end Go.Mg

namespace Go
abbrev Value.i6 (x : Int) : Value := .int .i64 x
abbrev Value.pt (b : Nat) : Value := .pointer (some ⟨b, 0, none⟩)
end Go
namespace Go.Mg
open Go
set_option linter.unusedVariables false
section
variable {P : Program} {N : Nat} {qn qr : En → World → Prop} {qx : List (Nat × (En → World → Prop))} {ρ : En} {w : World}
theorem cq {b : Code} {id : Nat} {l : List Oper} (h : ∀ K : En → World → Prop, (∀ {ρ w}, CW P N b ⟨qn, qr, qx⟩ ρ w → K ρ w) → W P l.toArray K l ρ w) : CW P N (.seq (.region id l.toArray false) b) ⟨qn, qr, qx⟩ ρ w :=
 ql fun K k => qf (h K fun {ρ w} => k ρ w)
end
theorem hZ {ρ : En} {l : List (Nat × Value)} (h : Has ρ l := by repeat' first | exact trivial | refine ⟨rfl, ?_⟩) : Has ρ l := h
def os : List Nat → Ot → Ot
 | [], k => k
 | i :: l, k => .one i true (os l k)
section
variable {P : Program} {ops : Array Oper} {K : En → World → Prop} {l : List Oper} {d : Option Tmp} {op : Op} {ty : TypeId} {pos : String} {af : Array Edge} {v : Value} {ρ : En} {w : World}
theorem mv (v : Value) {x : Operand} (k : W P ops K l (put ρ d v) w) (h : ev ρ x = v := by exact rfl) : W P ops K (⟨d, .move x, ty, pos, af, none⟩ :: l) ρ w := sv (mvv v h) k
theorem av (v : Value) {x : Operand} (k : W P ops K l (put ρ d v) w) (h : ev ρ x = v := by exact rfl) : W P ops K (⟨d, .assign x, ty, pos, af, none⟩ :: l) ρ w := sv (asv v h) k
theorem wn {o : Oper} {j d' : Nat} {b b' : Bool} (hb : b' = !b) (k : W P ops K l (put ρ o.dst undef) w) (h : o.guard = some (j, b) := by exact rfl) (hd : (ops[j]?).bind (·.dst) = some d' := by exact rfl) (hv : ρ d' = .bool b' := by exact rfl) : W P ops K (o :: l) ρ w := W.n (gn h hd hv hb) k
theorem wv {o : Oper} {j d' : Nat} {b b' : Bool} (hb : b' = b) (hr : Rv P o ρ v) (k : W P ops K l (put ρ o.dst v) w) (h : o.guard = some (j, b) := by exact rfl) (hd : (ops[j]?).bind (·.dst) = some d' := by exact rfl) (hv : ρ d' = .bool b' := by exact rfl) : W P ops K (o :: l) ρ w := W.v (gy h hd hv hb) hr k
end
end Go.Mg
