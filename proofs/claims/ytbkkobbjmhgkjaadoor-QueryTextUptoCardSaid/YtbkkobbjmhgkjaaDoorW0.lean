/- What each function computes, and that the program computes it (part 0). Printed by gen.py, a program of this session. -/
import Derived.Test.YtbkkobbjmhgkjaaDoorProg
import Derived.Test.YtbkkobbjmhgkjaaDoorMgS
import Derived.Test.YtbkkobbjmhgkjaaDoorMgV
import Derived.Test.YtbkkobbjmhgkjaaDoorMgO
import Derived.Test.YtbkkobbjmhgkjaaDoorMgM
import Derived.Test.YtbkkobbjmhgkjaaDoorMgI
import Derived.Test.YtbkkobbjmhgkjaaDoorMgAr
import Derived.Test.YtbkkobbjmhgkjaaDoorMgRg
import Derived.Test.YtbkkobbjmhgkjaaDoorMgSt
import Derived.Test.YtbkkobbjmhgkjaaDoorMgEn
import Derived.Test.YtbkkobbjmhgkjaaDoorMgDf
import Derived.Test.YtbkkobbjmhgkjaaDoorMgSi
import Derived.Test.YtbkkobbjmhgkjaaDoorMgSs
import Derived.Test.YtbkkobbjmhgkjaaDoorMgOp
import Derived.Test.YtbkkobbjmhgkjaaDoorMgNo
import Derived.Test.YtbkkobbjmhgkjaaDoorMgBd
import Derived.Test.YtbkkobbjmhgkjaaDoorShelf
set_option linter.unusedVariables false
namespace Go.Proofs.YtbkkobbjmhgkjaaDoor
open Go Go.Mg
structure api_Label where
  Name : ByteArray
  Val : ByteArray

def api_Label.k : Kd api_Label := kIso (kAgg (kPair kS kS)) fun x => (x.Name, x.Val)
theorem api_Label.r {S : Nat → Prop} {w : World} {cs : List Value} {x : api_Label} : api_Label.k.rep S w cs x ↔ cs = [.string x.Name, .string x.Val] := by
  constructor
  · rintro ⟨d0, e0, rfl, h0, h1⟩
    have h0 := rep_sc.1 h0; subst h0
    have h1 := rep_sc.1 h1; subst h1
    rfl
  · rintro rfl
    exact ⟨_, _, rfl, (rep_sc.2 rfl), (rep_sc.2 rfl)⟩
theorem api_Label.o {S : Nat → Prop} {w : World} {v : Value} {x : api_Label} : Sl api_Label.k S w v x ↔ v = .agg (List.toArray [.string x.Name, .string x.Val]) := by
  constructor
  · rintro ⟨cs, rfl, h⟩
    rw [api_Label.r.1 h]; rfl
  · rintro rfl
    exact ⟨_, rfl, api_Label.r.2 rfl⟩

structure api_Point where
  T : Int
  V : Int

def api_Point.k : Kd api_Point := kIso (kAgg (kPair (kI .i64) (kI .i64))) fun x => (x.T, x.V)
theorem api_Point.r {S : Nat → Prop} {w : World} {cs : List Value} {x : api_Point} : api_Point.k.rep S w cs x ↔ cs = [.int .i64 x.T, .int .i64 x.V] := by
  constructor
  · rintro ⟨d0, e0, rfl, h0, h1⟩
    have h0 := rep_sc.1 h0; subst h0
    have h1 := rep_sc.1 h1; subst h1
    rfl
  · rintro rfl
    exact ⟨_, _, rfl, (rep_sc.2 rfl), (rep_sc.2 rfl)⟩
theorem api_Point.o {S : Nat → Prop} {w : World} {v : Value} {x : api_Point} : Sl api_Point.k S w v x ↔ v = .agg (List.toArray [.int .i64 x.T, .int .i64 x.V]) := by
  constructor
  · rintro ⟨cs, rfl, h⟩
    rw [api_Point.r.1 h]; rfl
  · rintro rfl
    exact ⟨_, rfl, api_Point.r.2 rfl⟩

structure api_Row where
  Labels : List api_Label
  Points : List api_Point

def api_Row.k : Kd api_Row := kIso (kAgg (kPair (kSl api_Label.k) (kSl api_Point.k))) fun x => (x.Labels, x.Points)
theorem api_Row.r {S : Nat → Prop} {w : World} {cs : List Value} {x : api_Row} : api_Row.k.rep S w cs x ↔ ∃ c0 c1 : Value, cs = [c0, c1] ∧ Sl (kSl api_Label.k) S w c0 x.Labels ∧ Sl (kSl api_Point.k) S w c1 x.Points := by
  constructor
  · rintro ⟨d0, e0, rfl, h0, h1⟩
    obtain ⟨_, q0, k0⟩ := rep_sl.1 h0; subst q0
    obtain ⟨_, q1, k1⟩ := rep_sl.1 h1; subst q1
    exact ⟨_, _, rfl, k0, k1⟩
  · rintro ⟨c0, c1, rfl, g0, g1⟩
    exact ⟨_, _, rfl, (rep_sl.2 ⟨_, rfl, g0⟩), (rep_sl.2 ⟨_, rfl, g1⟩)⟩
theorem api_Row.o {S : Nat → Prop} {w : World} {v : Value} {x : api_Row} : Sl api_Row.k S w v x ↔ ∃ c0 c1 : Value, v = .agg (List.toArray [c0, c1]) ∧ Sl (kSl api_Label.k) S w c0 x.Labels ∧ Sl (kSl api_Point.k) S w c1 x.Points := by
  constructor
  · rintro ⟨cs, rfl, h⟩
    obtain ⟨c0, c1, rfl, g0, g1⟩ := api_Row.r.1 h
    exact ⟨c0, c1, rfl, g0, g1⟩
  · rintro ⟨c0, c1, rfl, g0, g1⟩
    exact ⟨_, rfl, api_Row.r.2 ⟨c0, c1, rfl, g0, g1⟩⟩

set_option maxRecDepth 100000 in
theorem el22 : El Tryd.prog api_Row.k 22 26 48 := { hi := ⟨_, _, rfl, rfl, rfl, rfl, rfl⟩, hs := by decide, ag := by kernel_rfl, ht := by kernel_rfl }
set_option maxRecDepth 100000 in
theorem zr26 : zeroOf Tryd.prog 26 = some [.slice none 0 0, .slice none 0 0] := by kernel_rfl
set_option maxRecDepth 100000 in
theorem st26 : stOf Tryd.prog 26 = some [(0, 1, false), (1, 1, false)] := by kernel_rfl
set_option maxRecDepth 100000 in
theorem ag23 : aggOf Tryd.prog 23 = some (false, 1) := by kernel_rfl
set_option maxRecDepth 100000 in
theorem ag24 : aggOf Tryd.prog 24 = some (false, 1) := by kernel_rfl
set_option maxRecDepth 100000 in
theorem el24 : El Tryd.prog api_Point.k 24 33 16 := { hi := ⟨_, _, rfl, rfl, rfl, rfl, rfl⟩, hs := by decide, ag := by kernel_rfl, ht := by kernel_rfl }
set_option maxRecDepth 100000 in
theorem el23 : El Tryd.prog api_Label.k 23 31 32 := { hi := ⟨_, _, rfl, rfl, rfl, rfl, rfl⟩, hs := by decide, ag := by kernel_rfl, ht := by kernel_rfl }
set_option maxRecDepth 100000 in
theorem st31 : stOf Tryd.prog 31 = some [(0, 1, false), (1, 1, false)] := by kernel_rfl
set_option maxRecDepth 100000 in
theorem zr31 : zeroOf Tryd.prog 31 = some [.string ByteArray.empty, .string ByteArray.empty] := by kernel_rfl
set_option maxRecDepth 100000 in
theorem st33 : stOf Tryd.prog 33 = some [(0, 1, false), (1, 1, false)] := by kernel_rfl
set_option maxRecDepth 100000 in
theorem zr33 : zeroOf Tryd.prog 33 = some [.int .i64 0, .int .i64 0] := by kernel_rfl
set_option maxRecDepth 100000 in
theorem zr37 : zeroOf Tryd.prog 37 = some [.pointer none, .slice none 0 0] := by kernel_rfl
set_option maxRecDepth 100000 in
theorem ag9 : aggOf Tryd.prog 9 = some (false, 1) := by kernel_rfl
set_option maxRecDepth 100000 in
theorem el38 : El Tryd.prog kS 38 9 16 := { hi := ⟨_, _, rfl, rfl, rfl, rfl, rfl⟩, hs := by decide, ag := by kernel_rfl, ht := by kernel_rfl }
set_option maxRecDepth 100000 in
theorem fol : Tryd.prog.follows .mixedOrders = true := by kernel_rfl
set_option maxRecDepth 100000 in
theorem ag3 : aggOf Tryd.prog 3 = some (false, 1) := by kernel_rfl
set_option maxRecDepth 100000 in
theorem can7 : CanE Tryd.prog 7 = true := by kernel_rfl
set_option maxRecDepth 100000 in
theorem can9 : CanE Tryd.prog 9 = true := by kernel_rfl
set_option maxRecDepth 100000 in
theorem can8 : CanE Tryd.prog 8 = true := by kernel_rfl
set_option maxRecDepth 100000 in
theorem can10 : CanE Tryd.prog 10 = true := by kernel_rfl
set_option maxRecDepth 100000 in
theorem can5 : CanE Tryd.prog 5 = true := by kernel_rfl
set_option maxRecDepth 100000 in
theorem can4 : CanE Tryd.prog 4 = true := by kernel_rfl
set_option maxRecDepth 100000 in
theorem can11 : CanE Tryd.prog 11 = true := by kernel_rfl
set_option maxRecDepth 100000 in
theorem el35 : El Tryd.prog (kI .u8) 35 5 1 := { hi := ⟨_, _, rfl, rfl, rfl, rfl, rfl⟩, hs := by decide, ag := by kernel_rfl, ht := by kernel_rfl }
set_option maxRecDepth 100000 in
theorem can6 : CanE Tryd.prog 6 = true := by kernel_rfl

def strconv_Itoa (a0 : Int) : Option ByteArray := itoa_ a0
theorem strconv_Itoa_w {S : Nat → Prop} {w : World} {a0 : Int} {r : ByteArray} (hS : Sb S w) (hT : Tb Tryd.prog "internal/strconv.uint64pow10" .u64 Lib.pow10Tab S w) (h : strconv_Itoa a0 = some r) :
    Calls Tryd.prog 7 (List.toArray [.int .i64 a0]) w fun e w1 => ∃ S1, e = .returned (.string r) ∧ Cx No S w S1 w1 := by
  unfold strconv_Itoa itoa_ at h
  split at h
  case isFalse => cases h
  rename_i hb
  cases h
  obtain ⟨g, hg, hgl, hn, ht⟩ := hT
  refine (Tryd.strconv_Itoa a0 hb.1 hb.2 w ht).mono ?_
  rintro e w1 ⟨rfl, k, os, rfl⟩
  exact ⟨S, rfl, Cx.ofUp hS (Up.grow k os)⟩

def strings_Join (a0 : List ByteArray) (a1 : ByteArray) : Option ByteArray := join_ a0 a1
theorem strings_Join_w {S : Nat → Prop} {w : World} {a0 : List ByteArray} {a1 : ByteArray} {v0 : Value} {r : ByteArray} (hS : Sb S w) (h0 : Sl (kSl kS) S w v0 a0) (h : strings_Join a0 a1 = some r) :
    Calls Tryd.prog 9 (List.toArray [v0, .string a1]) w fun e w1 => ∃ S1, e = .returned (.string r) ∧ Cx No S w S1 w1 := by
  unfold strings_Join join_ at h
  split at h
  case isFalse => cases h
  rename_i hb
  obtain ⟨hb1, hb2⟩ := hb
  cases h
  obtain ⟨A, c, rfl, hc, hl, hrow⟩ := sl_slice.1 h0
  rcases hrow with rfl | ⟨b, off, rfl, hbS, hrow⟩
  · refine (Tryd.strings_Join_none A c a1 w).mono ?_
    rintro e w1 ⟨rfl, rfl⟩
    exact ⟨S, rfl, Cx.refl hS⟩
  · refine (Tryd.strings_Join b off c a0 a1 w (fun j x hj => ?_) (hS b hbS) hb1 hc hb2).mono ?_
    · obtain ⟨cs, h1, h2⟩ := hrow j x hj
      have h1 : cs = [.string x] := h1
      subst h1
      simpa [show kS.sz = 1 from rfl] using h2 0 _ rfl
    rintro e w1 ⟨rfl, hbe⟩
    exact ⟨S, rfl, Cx.ofUp hS ⟨hbe.os, hbe.tape, hbe.output, hbe.size, fun k hk _ => hbe.block k hk⟩⟩

set_option maxHeartbeats 1000000 in
set_option maxRecDepth 1000000 in
theorem bd_check_used (b : Nat) (w : World) (h0 : w.cell? ⟨b, 0, none⟩ = some (.pointer (some ⟨b, 0, none⟩))) :
    Calls Tryd.prog 13 #[.pointer (some ⟨b, 0, none⟩)] w fun e w' => e = .returned (.tuple #[]) ∧ w' = w := by
  obtain ⟨j, hj, hjs⟩ := Option.map_eq_some_iff.1 (show (Tryd.prog.info? 37).map (·.size) = some 2 by kernel_rfl)
  go_enter Tryd.func13, Tryd.ntmps13
  go_wp2
  rw [Lib.run_neq_ptr_same w _ Tryd.underlying34 hj]
  go_wp2
  go_end0
  exact ⟨rfl, rfl⟩
set_option maxHeartbeats 1000000 in
set_option maxRecDepth 1000000 in
theorem bd_check_fresh (b : Nat) (w : World) (h0 : w.cell? ⟨b, 0, none⟩ = some (.pointer none)) (hsh : w.shape? b = some (37, 2)) (hfz : w.frozen? ⟨b, 0, none⟩ = false) :
    Calls Tryd.prog 13 #[.pointer (some ⟨b, 0, none⟩)] w fun e w' => e = .returned (.tuple #[]) ∧ w' = w.setCell ⟨b, 0, none⟩ (.pointer (some ⟨b, 0, none⟩)) := by
  obtain ⟨j, hj, hjs⟩ := Option.map_eq_some_iff.1 (show (Tryd.prog.info? 37).map (·.size) = some 2 by kernel_rfl)
  go_enter Tryd.func13, Tryd.ntmps13
  go_wp2
  rw [Lib.run_to_unsafe w ⟨b, 0, none⟩ Tryd.underlying34 Tryd.underlying49 hj (by rw [hjs]; decide) hsh (Nat.zero_lt_succ 1)]
  simp only [Result.andThen]
  rw [Oper.upon_value]
  go_wp2
  rw [run_callFunc_extern Tryd.func16 (by kernel_rfl) (by kernel_rfl) (by kernel_rfl) (e := Extern.AbiNoEscape.same) (by kernel_rfl)]
  rw [Lib.run_noEscape]
  simp only [Result.andThen]
  rw [Oper.upon_value]
  go_wp2
  rw [Lib.run_from_unsafe w ⟨b, 0, none⟩ Tryd.underlying49 Tryd.underlying34 hj hsh (by kernel_rfl)]
  simp only [Result.andThen]
  rw [Oper.upon_value]
  go_wp2
  go_end0
  exact ⟨rfl, rfl⟩
theorem bd_check {b : Nat} {w : World} {a u : Value} (hb : w.heap[b]? = some (.cells #[a, u] 37 (0, 0))) (ha : a = .pointer none ∨ a = .pointer (some ⟨b, 0, none⟩)) :
    Calls Tryd.prog 13 #[.pointer (some ⟨b, 0, none⟩)] w fun e w' => e = .returned (.tuple #[]) ∧ w'.heap[b]? = some (.cells #[.pointer (some ⟨b, 0, none⟩), u] 37 (0, 0)) ∧ Up (Mg.One b) w w' ∧ w'.heap.size = w.heap.size := by
  have h0 : w.cell? ⟨b, 0, none⟩ = some a := by simp [World.cell?, hb]
  rcases ha with rfl | rfl
  · refine (bd_check_fresh b w h0 (by simp [World.shape?, hb]) (by simp [World.frozen?, hb])).mono ?_
    rintro e w' ⟨rfl, rfl⟩
    refine ⟨rfl, by simp [World.setCell, Array.getElem?_modify, hb], ⟨rfl, rfl, rfl, by simp [World.setCell], fun k _ hk => Go.RowKit.Below.heap_setCell _ _ _ _ (fun e => hk (by simp [Mg.One, e]))⟩, by simp [World.setCell]⟩
  · refine (bd_check_used b w h0).mono ?_
    rintro e w' ⟨rfl, rfl⟩
    exact ⟨rfl, hb, Up.refl _ _, rfl⟩
set_option maxHeartbeats 2000000 in
set_option maxRecDepth 1000000 in
theorem bd_write {S : Nat → Prop} {w : World} {v : Value} {x s r : ByteArray} {fp : List Nat} (hS : Sb S w) (h : Mo (fBd 37 5) S w v x fp) (hr : bw_ x s = some r) :
    Calls Tryd.prog 8 #[v, .string s] w fun e w1 => ∃ fp', e = .returned (.tuple #[.int .i64 s.size, .nilIface]) ∧ Up (· ∈ fp) w w1 ∧ Mo (fBd 37 5) S w1 v r fp' ∧ ∀ q ∈ fp', q ∈ fp ∨ w.heap.size ≤ q := by
  obtain ⟨⟨b, u, a, rfl, ha, hb, ho, hne, rfl, hSf⟩, hnd⟩ := h
  obtain ⟨hlen, rfl⟩ := bw_some hr
  obtain ⟨i, hi, hz0, hz1, hz2⟩ := info_parts (show (Tryd.prog.info? 5).map (fun i => (i.zero, i.size, i.bytes)) = some (some (.int .u8 0), 1, 1) by kernel_rfl)
  have e13 : ∀ args w, (callFunc 13 args).run Tryd.prog w = .ok (.enter 13 args) w := enters_of Tryd.func13 (by kernel_rfl) rfl
  go_enter Tryd.func8, Tryd.ntmps8
  go_wp2_with (go_at_fn 13; refine (bd_check hb ha).mono ?_)
  rintro e w1 ⟨rfl, hb1, up1, hs1⟩
  have hlt : b < w.heap.size := (Array.getElem?_eq_some_iff.1 hb).1
  have ho1 : w1.ownsRow b 5 1 u x.size (Lib.strCells x) := by
    refine ⟨ho.1, ?_⟩
    rcases ho.2 with h | ⟨g, cap, cur, rfl, hbg, hg, hq⟩
    · exact .inl h
    · exact .inr ⟨g, cap, cur, rfl, hbg, (up1.block g (Array.getElem?_eq_some_iff.1 hg).1 (fun e => hne (by simp [Value.ownBlock, show g = b from e]))).trans hg, hq⟩
  have c0 : w1.cell? ⟨b, 0, none⟩ = some (.pointer (some ⟨b, 0, none⟩)) := by rw [Lib.cell_of_heap hb1]; rfl
  have c1 : w1.cell? ⟨b, 1, none⟩ = some u := by rw [Lib.cell_of_heap hb1]; rfl
  have hl : x.size + s.size = (x ++ s).size := ByteArray.size_append.symm
  go_wp2_with (at_builtin; refine wpList_app_str (v := u) rfl _ _ 35 9 rfl Tryd.underlying35 Tryd.underlying9 hi hz0 hz1 hz2 rfl ho1 s rfl hlen (by omega) ?_)
  intro v' w2 ho2 hgr hblk
  have hb2 : w2.heap[b]? = some (.cells #[.pointer (some ⟨b, 0, none⟩), u] 37 (0, 0)) := by
    rw [hgr.block b (by omega) (fun e => hne e.symm)]
    exact hb1
  have d0 : w2.cell? ⟨b, 0, none⟩ = some (.pointer (some ⟨b, 0, none⟩)) := by rw [Lib.cell_of_heap hb2]; rfl
  have d1 : w2.cell? ⟨b, 1, none⟩ = some u := by rw [Lib.cell_of_heap hb2]; rfl
  have f1 : w2.frozen? ⟨b, 1, none⟩ = false := Lib.frozen_of_heap hb2 1
  have hne2 := Lib.ownBlock_ne ho2 hb2 (by decide)
  obtain ⟨ao, n', cap, rfl⟩ : ∃ ao n' cap, v' = .slice ao n' cap := by
    rcases ho2.2 with ⟨hv, _⟩ | ⟨g, cap, cur, hv, _⟩
    · exact ⟨_, _, _, hv⟩
    · exact ⟨_, _, _, hv⟩
  go_wp2
  go_ret2
  have hsub : ∀ q ∈ b :: (Value.slice ao n' cap).ownBlock.toList, q ∈ b :: u.ownBlock.toList ∨ w.heap.size ≤ q := by
    intro q hq
    rcases List.mem_cons.1 hq with rfl | hq
    · exact .inl (by simp)
    · rcases hblk q (by simpa using hq) with h | h
      · exact .inl (by simp [h])
      · exact .inr (by omega)
  refine ⟨_, rfl, ?_, ⟨⟨b, .slice ao n' cap, .pointer (some ⟨b, 0, none⟩), rfl, .inr rfl, ?_, ?_, hne2, rfl, fun q hq hs => ?_⟩, nodup_row hne2⟩, hsub⟩
  · refine ⟨hgr.os.trans up1.os, hgr.tape.trans up1.tape, hgr.output.trans up1.output, by have := hgr.size; simp [World.setCell]; omega, fun k hk hn => ?_⟩
    have h1 : k ≠ b := fun e => hn (by simp [e])
    have h2 : some k ≠ u.ownBlock := fun e => hn (by simp [← e])
    rw [Go.RowKit.Below.heap_setCell _ _ _ _ (fun e => h1 e), hgr.block k (by omega) h2]
    exact up1.block k hk h1
  · simp [World.setCell, Array.getElem?_modify, hb2]
  · rw [← hl, strCells_append]
    exact ho2.kept (row := some b) ⟨rfl, rfl, rfl, by simp [World.setCell], fun k _ hk => Go.RowKit.Below.heap_setCell _ _ _ _ (fun e => hk (by simp [e]))⟩ (Or.inr hne2)
  · rcases hsub q hq with h | h
    · exact hSf q h hs
    · have := hS q hs; omega
set_option maxRecDepth 100000 in
theorem bd_string {S : Nat → Prop} {w : World} {v : Value} {x : ByteArray} {fp : List Nat} (h : Mo (fBd 37 5) S w v x fp) :
    Calls Tryd.prog 10 #[v] w fun e w1 => ∃ b, e = .returned (.string x) ∧ b ∈ fp ∧ Go.RowKit.Below b w w1 := by
  obtain ⟨⟨b, u, a, rfl, ha, hb, ho, hne, rfl, hSf⟩, hnd⟩ := h
  have hat : ∀ p, a = p → Lib.BuilderAt 37 5 b b p (Lib.byteCells x.data.toList) w := by
    rintro p rfl
    refine ⟨Nat.le_refl _, u, hb, ?_, hne⟩
    have : (Lib.byteCells x.data.toList).length = x.size := Lib.strCells_length x
    rw [this]
    exact ho
  refine (Tryd.Builder_String_any b b x.data.toList w (ha.imp (hat _) (hat _)) (Nat.le_of_lt (Array.getElem?_eq_some_iff.1 hb).1)).mono ?_
  rintro e w1 ⟨rfl, hbe⟩
  exact ⟨b, rfl, by simp, hbe⟩
noncomputable def query_Text.b5 (y56 : api_Row) (x86 : List ByteArray) (x87 : Int) : Option (((List ByteArray) × Int) ⊕ ((List ByteArray))) :=
  (bif (decide (x87 < (y56.Labels.length : Int))) then ((at_ y56.Labels x87).bind fun y99 => (pur y99 fun y112 => ((sadd_ y112.Name (ByteArray.mk #[61])).bind fun y121 => ((sadd_ y121 y112.Val).bind fun y126 => ((app_ 16 x86 ([y126] : List ByteArray)).bind fun y136 => (pur (IntKind.i64.wrap (x87 + (1 : Int))) fun y146 => some (.inl (y136, y146)))))))) else some (.inr x86))
noncomputable def query_Text.b7 (y56 : api_Row) (x179 : List ByteArray) (x180 : Int) : Option (((List ByteArray) × Int) ⊕ ((List ByteArray))) :=
  (bif (decide (x180 < (y56.Points.length : Int))) then ((at_ y56.Points x180).bind fun y192 => (pur y192 fun y205 => ((strconv_Itoa y205.T).bind fun y220 => ((sadd_ y220 (ByteArray.mk #[58])).bind fun y227 => ((strconv_Itoa y205.V).bind fun y229 => ((sadd_ y227 y229).bind fun y236 => ((app_ 16 x179 ([y236] : List ByteArray)).bind fun y248 => (pur (IntKind.i64.wrap (x180 + (1 : Int))) fun y260 => some (.inl (y248, y260)))))))))) else some (.inr x179))
noncomputable def query_Text.b2 (a0 : List api_Row) (x26 : Int) (x27 : ByteArray) : Option ((Int × ByteArray) ⊕ (ByteArray)) :=
  (bif (decide (x26 < (a0.length : Int))) then (((at_ a0 x26).bind fun y41 => (pur y41 fun y56 => ((iter (fun s : (List ByteArray) × Int => query_Text.b5 y56 s.1 s.2) (([] : List ByteArray), (0 : Int))).bind fun o64 => ((iter (fun s : (List ByteArray) × Int => query_Text.b7 y56 s.1 s.2) (([] : List ByteArray), (0 : Int))).bind fun o157 => ((strings_Join o64 (ByteArray.mk #[44])).bind fun y271 => ((sadd_ y271 (ByteArray.mk #[32])).bind fun y276 => ((strings_Join o157 (ByteArray.mk #[44])).bind fun y278 => ((sadd_ y276 y278).bind fun y283 => ((sadd_ y283 (ByteArray.mk #[10])).bind fun y285 => ((bw_ x27 y285).bind fun y287 => some y287)))))))))).bind fun o35 => (pur (IntKind.i64.wrap (x26 + (1 : Int))) fun y303 => some (.inl (y303, o35)))) else some (.inr x27))
noncomputable def query_Text (a0 : List api_Row) : Option ByteArray :=
  ((iter (fun s : Int × ByteArray => query_Text.b2 a0 s.1 s.2) ((0 : Int), ByteArray.empty)).bind fun o13 => some o13)
set_option maxRecDepth 100000 in
set_option maxHeartbeats 4000000 in
theorem query_Text_w {S : Nat → Prop} {w : World} {a0 : List api_Row} {v0 : Value} {r : ByteArray} (hS : Sb S w) (hT : Tb Tryd.prog "internal/strconv.uint64pow10" .u64 Lib.pow10Tab S w) (h0 : Sl (kSl api_Row.k) S w v0 a0) (h : query_Text a0 = some r) :
    Calls Tryd.prog 5 (List.toArray [v0]) w fun e w1 => ∃ S1, e = .returned (.string r) ∧ Cx No S w S1 w1 := by
  refine enter Tryd.func5 rfl (by kernel_rfl) rfl ?_
  have C := Cx.refl (F := No) hS
  unfold query_Text at h
  refine cw_seq fun K1 k2 => ?_
  refine cw_region (sv (asv (.string ByteArray.empty) rfl) (W.e (k2 _ _ ?_)))
  refine cw_seq fun K3 k4 => ?_
  refine cw_region ?_
  refine sc (dc_alloc zr37 fun b5 w6 h7 h8 u9 h10 => ?_)
  have h11 := Bk.bd (T := 37) (e := 5) (S := S) h10 (fun hs => absurd (C.sb _ hs) (Nat.not_lt_of_le h7))
  have h12q : ∀ q, q ∈ [b5] → w.heap.size ≤ q := fun q hq => by rw [List.mem_singleton.1 hq]; exact h7
  have h12 : ∀ q, q ∈ [b5] → w.heap.size ≤ q := fun q hq => Nat.le_trans C.up.size (h12q q hq)
  replace h0 := h0.nw u9
  replace hT := hT.nw u9
  replace C := C.new u9
  refine W.e (k4 _ _ ?_)
  obtain ⟨o13, h16, h⟩ := bnd_some h
  refine cw_seq' (fun ρ w1 => ∃ S1 fp309, Cx No S w S1 w1 ∧ Has ρ [(3, .pointer (some ⟨b5, 0, none⟩))] ∧ Tb Tryd.prog "internal/strconv.uint64pow10" .u64 Lib.pow10Tab S1 w1 ∧ Mo (fBd 37 5) S1 w1 (.pointer (some ⟨b5, 0, none⟩)) o13 fp309 ∧ (∀ b, b ∈ fp309 → w.heap.size ≤ b)) ?_ ?_
  · refine cw_seq fun K17 k18 => ?_
    refine cw_region (sv (mvv v0 rfl) (sv (rv_lenS el22 h0 rfl) (sv (mvv (.int .i64 0) rfl) (W.e (k18 _ _ (cw_block ?_))))))
    refine cw_iter h16 (fun s ρ w1 => ∃ S1 fp23, Cx No S w S1 w1 ∧ Has ρ [(3, .pointer (some ⟨b5, 0, none⟩)), (12, v0), (13, .int .i64 (a0.length : Int)), (14, .int .i64 s.1)] ∧ Tb Tryd.prog "internal/strconv.uint64pow10" .u64 Lib.pow10Tab S1 w1 ∧ Sl (kSl api_Row.k) S1 w1 v0 a0 ∧ Mo (fBd 37 5) S1 w1 (.pointer (some ⟨b5, 0, none⟩)) s.2 fp23 ∧ (∀ b, b ∈ fp23 → w.heap.size ≤ b)) ⟨_, _, C, ⟨rfl, rfl, rfl, rfl, trivial⟩, hT, h0, h11, h12⟩ ?_
    rintro ⟨x26, x27⟩ q19 ρ w21 ⟨S20, fp23, C, h25, hT, h0, h22, h24⟩ h29 h28
    refine h25.cw fun ρ => ?_
    clear h25
    replace h29 : query_Text.b2 a0 x26 x27 = some q19 := h29
    unfold query_Text.b2 at h29
    refine cw_seq fun K30 k31 => ?_
    refine cw_region (sv (rv_lss rfl rfl) (W.e (k31 _ _ ?_)))
    refine cw_seq fun K32 k33 => ?_
    rcases bif_some h29 with ⟨b34, h29⟩ | ⟨b34, h29⟩
    · refine cw_t rfl b34 (cw_skip (k33 _ _ ?_))
      obtain ⟨o35, h38, h29⟩ := bnd_some h29
      refine cw_seq' (fun ρ w1 => ∃ S1 fp300, Cx No S w S1 w1 ∧ Has ρ [(3, .pointer (some ⟨b5, 0, none⟩)), (12, v0), (13, .int .i64 (a0.length : Int)), (14, .int .i64 x26)] ∧ Tb Tryd.prog "internal/strconv.uint64pow10" .u64 Lib.pow10Tab S1 w1 ∧ Sl (kSl api_Row.k) S1 w1 v0 a0 ∧ Mo (fBd 37 5) S1 w1 (.pointer (some ⟨b5, 0, none⟩)) o35 fp300 ∧ (∀ b, b ∈ fp300 → w.heap.size ≤ b)) ?_ ?_
      · refine cw_block ?_
        refine cw_seq fun K39 k40 => ?_
        refine cw_region ?_
        obtain ⟨y41, h42, h38⟩ := bnd_some h38
        refine sv (rv_index el22 h0 rfl rfl h42) ?_
        obtain ⟨v43, h44, h45⟩ := rw_loadA (P := Tryd.prog) el22 h0 h42
        obtain ⟨c46, c48, rfl, g47, g49⟩ := api_Row.o.1 h44
        refine sr (h45 _ (Sm.refl _ _) rfl) ?_
        refine sc (dc_allocO (x0 := (api_Row.mk ([] : List api_Label) ([] : List api_Point))) (base := w.heap.size) el22 zr26 (fun _ => api_Row.r.2 ⟨_, _, rfl, sl_nil _ _ _, sl_nil _ _ _⟩) C.up.size C.sb fun b50 w51 h52 h53 u54 => ?_)
        have p55 := ap_fresh h53 (fun b hb => (h22.lt b hb).1)
        replace g47 := g47.nw u54
        replace g49 := g49.nw u54
        replace h22 := h22.nw u54
        replace h0 := h0.nw u54
        replace hT := hT.nw u54
        replace C := C.new u54
        obtain ⟨y56, h57, h38⟩ := pur_some h38
        have h61 := h52
        refine sc (dc_storeO el22 h61 (show at_ [(api_Row.mk ([] : List api_Label) ([] : List api_Point))] (0 : Int) = some (api_Row.mk ([] : List api_Label) ([] : List api_Point)) from rfl) rfl rfl ((api_Row.o.2 ⟨_, _, rfl, g47, g49⟩)) fun w58 h59 u60 => ?_)
        replace h59 : Ow api_Row.k 26 S20 w.heap.size w58 (.slice (some ⟨b50, 0, none⟩) 1 1) [y41] := h59
        rw [h57] at h59
        replace h22 := h22.wr u60 h61.not (ap_symm p55)
        replace h0 := h0.wr u60 h61.not
        replace hT := hT.wr u60 h61.not
        replace C := C.ow h61 u60
        refine W.e (k40 _ _ ?_)
        refine cw_seq fun K62 k63 => ?_
        refine cw_region (sv (asv (.slice none 0 0) rfl) (sv (asv (.slice none 0 0) rfl) (W.e (k63 _ _ ?_))))
        obtain ⟨o64, h67, h38⟩ := bnd_some h38
        refine cw_seq' (fun ρ w1 => ∃ S1 v151, Cx No S w S1 w1 ∧ Has ρ [(3, .pointer (some ⟨b5, 0, none⟩)), (5, .pointer (some ⟨b50, 0, none⟩)), (6, v151), (7, .slice none 0 0), (12, v0), (13, .int .i64 (a0.length : Int)), (14, .int .i64 x26)] ∧ Tb Tryd.prog "internal/strconv.uint64pow10" .u64 Lib.pow10Tab S1 w1 ∧ Ow api_Row.k 26 S1 w.heap.size w1 (.slice (some ⟨b50, 0, none⟩) 1 1) ([y56]) ∧ Ow kS 9 S1 w.heap.size w1 v151 o64 ∧ Sl (kSl api_Row.k) S1 w1 v0 a0 ∧ Mo (fBd 37 5) S1 w1 (.pointer (some ⟨b5, 0, none⟩)) x27 fp23 ∧ Ap (.slice (some ⟨b50, 0, none⟩) 1 1) v151 ∧ (∀ b, Blk (.slice (some ⟨b50, 0, none⟩) 1 1) b → ¬ b ∈ fp23) ∧ (∀ b, Blk v151 b → ¬ b ∈ fp23)) ?_ ?_
        · refine cw_seq fun K68 k69 => ?_
          refine cw_region (sv (rv_fieldAddr st26 rfl rfl) ?_)
          obtain ⟨cs70, h71, h72⟩ := Ow.cellsO h59 (show at_ [y56] (0 : Int) = some y56 from rfl)
          obtain ⟨c73, c75, rfl, g74, g76⟩ := api_Row.r.1 h71
          refine sr (rw_el1 (off := 0) ag23 (h72 _ (Sm.refl _ _)) rfl rfl) (sv (rv_lenS el23 g74 rfl) (sv (mvv (.int .i64 0) rfl) (W.e (k69 _ _ (cw_block ?_)))))
          refine cw_iter h67 (fun s ρ w1 => ∃ S1 v80, Cx No S w S1 w1 ∧ Has ρ [(3, .pointer (some ⟨b5, 0, none⟩)), (5, .pointer (some ⟨b50, 0, none⟩)), (6, v80), (7, .slice none 0 0), (12, v0), (13, .int .i64 (a0.length : Int)), (14, .int .i64 x26), (19, c73), (20, .int .i64 (y56.Labels.length : Int)), (21, .int .i64 s.2)] ∧ Tb Tryd.prog "internal/strconv.uint64pow10" .u64 Lib.pow10Tab S1 w1 ∧ Ow api_Row.k 26 S1 w.heap.size w1 (.slice (some ⟨b50, 0, none⟩) 1 1) ([y56]) ∧ Ow kS 9 S1 w.heap.size w1 v80 s.1 ∧ Sl (kSl api_Row.k) S1 w1 v0 a0 ∧ Sl (kSl api_Label.k) S1 w1 c73 y56.Labels ∧ Mo (fBd 37 5) S1 w1 (.pointer (some ⟨b5, 0, none⟩)) x27 fp23 ∧ Ap (.slice (some ⟨b50, 0, none⟩) 1 1) v80 ∧ (∀ b, Blk (.slice (some ⟨b50, 0, none⟩) 1 1) b → ¬ b ∈ fp23) ∧ (∀ b, Blk v80 b → ¬ b ∈ fp23)) ⟨_, _, C, ⟨rfl, rfl, rfl, rfl, rfl, rfl, rfl, rfl, rfl, rfl, trivial⟩, hT, h59, Ow.nil _ _ _ _ _, h0, g74, h22, (ap_symm ap_nil), p55, ap_nil⟩ ?_
          rintro ⟨x86, x87⟩ q77 ρ w79 ⟨S78, v80, C, h85, hT, h59, h81, h0, g74, h22, p82, p83, p84⟩ h89 h88
          refine h85.cw fun ρ => ?_
          clear h85
          replace h89 : query_Text.b5 y56 x86 x87 = some q77 := h89
          unfold query_Text.b5 at h89
          refine cw_seq fun K90 k91 => ?_
          refine cw_region (sv (rv_lss rfl rfl) (W.e (k91 _ _ ?_)))
          refine cw_seq fun K92 k93 => ?_
          rcases bif_some h89 with ⟨b94, h89⟩ | ⟨b94, h89⟩
          · refine cw_t rfl b94 (cw_skip (k93 _ _ ?_))
            refine cw_seq fun K95 k96 => ?_
            refine cw_block ?_
            refine cw_seq fun K97 k98 => ?_
            refine cw_region ?_
            obtain ⟨y99, h100, h89⟩ := bnd_some h89
            refine sv (rv_index el23 g74 rfl rfl h100) ?_
            obtain ⟨v101, h102, h103⟩ := rw_loadA (P := Tryd.prog) el23 g74 h100
            obtain rfl := api_Label.o.1 h102
            refine sr (h103 _ (Sm.refl _ _) rfl) ?_
            refine sc (dc_allocO (x0 := (api_Label.mk ByteArray.empty ByteArray.empty)) (base := w.heap.size) el23 zr31 (fun _ => api_Label.r.2 rfl) C.up.size C.sb fun b104 w105 h106 h107 u108 => ?_)
            have p109 := ap_fresh h107 (fun b hb => (h22.lt b hb).1)
            have p110 := ap_fresh h107 (fun b hb => (h59.lt b hb).2)
            have p111 := ap_fresh h107 (fun b hb => (h81.lt b hb).2)
            replace h22 := h22.nw u108
            replace h59 := h59.nw u108
            replace h81 := h81.nw u108
            replace h0 := h0.nw u108
            replace g74 := g74.nw u108
            replace hT := hT.nw u108
            replace C := C.new u108
            obtain ⟨y112, h113, h89⟩ := pur_some h89
            have h117 := h106
            refine sc (dc_storeO el23 h117 (show at_ [(api_Label.mk ByteArray.empty ByteArray.empty)] (0 : Int) = some (api_Label.mk ByteArray.empty ByteArray.empty) from rfl) rfl rfl (((api_Label.o (x := y99)).2 rfl)) fun w114 h115 u116 => ?_)
            replace h115 : Ow api_Label.k 31 S78 w.heap.size w114 (.slice (some ⟨b104, 0, none⟩) 1 1) [y99] := h115
            rw [h113] at h115
            replace h22 := h22.wr u116 h117.not (ap_symm p109)
            replace h59 := h59.wr u116 h117.not (ap_symm p110)
            replace h81 := h81.wr u116 h117.not (ap_symm p111)
            replace h0 := h0.wr u116 h117.not
            replace g74 := g74.wr u116 h117.not
            replace hT := hT.wr u116 h117.not
            replace C := C.ow h117 u116
            refine W.e (k98 _ _ (cw_region (sv (mvv v80 rfl) (sv (rv_fieldAddr st31 rfl rfl) ?_))))
            obtain ⟨cs118, h119, h120⟩ := Ow.cellsO h115 (show at_ [y112] (0 : Int) = some y112 from rfl)
            obtain rfl := api_Label.r.1 h119
            refine sr (rw_el1 (off := 0) ag9 (h120 _ (Sm.refl _ _)) rfl rfl) ?_
            obtain ⟨y121, h122, h89⟩ := bnd_some h89
            refine sv (rv_sadd' rfl rfl h122) (sv (rv_fieldAddr st31 rfl rfl) ?_)
            obtain ⟨cs123, h124, h125⟩ := Ow.cellsO h115 (show at_ [y112] (0 : Int) = some y112 from rfl)
            obtain rfl := api_Label.r.1 h124
            refine sr (rw_el1 (off := 1) ag9 (h125 _ (Sm.refl _ _)) rfl rfl) ?_
            obtain ⟨y126, h127, h89⟩ := bnd_some h89
            refine sv (rv_sadd' rfl rfl h127) ?_
            refine sc (dc_lit (vs := [.string y126]) (xs := ([y126] : List ByteArray)) (base := w.heap.size) el38 rfl rfl (.cons (sl_sc.2 rfl) (.nil)) (Nat.le_of_ble_eq_true rfl) C.up.size C.sb fun v128 w129 h130 h131 u132 => ?_)
            have p133 := ap_fresh h131 (fun b hb => (h22.lt b hb).1)
            have p134 := ap_fresh h131 (fun b hb => (h59.lt b hb).2)
            have p135 := ap_fresh h131 (fun b hb => (h81.lt b hb).2)
            replace h22 := h22.nw u132
            replace h59 := h59.nw u132
            replace h0 := h0.nw u132
            replace g74 := g74.nw u132
            replace h81 := h81.nw u132
            replace hT := hT.nw u132
            replace C := C.new u132
            obtain ⟨y136, h137, h89⟩ := bnd_some h89
            have h143 := h81
            refine sc (dc_append el38 (by decide) h143 h130.src rfl rfl h137 C.up.size C.sb fun v138 w139 h140 u141 h142 => ?_)
            have p144 := ap_grow p84 h142 (fun b hb => (h22.lt b hb).1)
            have p145 := ap_grow (ap_symm p82) h142 (fun b hb => (h59.lt b hb).2)
            replace h22 := h22.wr u141 h143.not (ap_symm p84)
            replace h59 := h59.wr u141 h143.not p82
            replace h0 := h0.wr u141 h143.not
            replace g74 := g74.wr u141 h143.not
            replace hT := hT.wr u141 h143.not
            replace C := C.ow h143 u141
            refine sv (asv v138 rfl) (W.e (k96 _ _ (cw_region ?_)))
            obtain ⟨y146, h147, h89⟩ := pur_some h89
            refine sv (rv_add rfl rfl h147) (sv (mvv (.int .i64 y146) rfl) (W.e ?_))
            obtain rfl := Option.some.inj h89
            exact ⟨_, rfl, ⟨_, _, C, ⟨rfl, rfl, rfl, rfl, rfl, rfl, rfl, rfl, rfl, rfl, trivial⟩, hT, h59, h140, h0, g74, h22, (ap_symm p145), p83, p144⟩⟩
          · refine cw_f rfl b94 (cw_exit ?_)
            obtain rfl := Option.some.inj h89
            have h148 := congrArg some h88
            obtain rfl := Option.some.inj h148
            exact ⟨_, _, C, ⟨rfl, rfl, rfl, rfl, rfl, rfl, rfl, trivial⟩, hT, h59, h81, h0, h22, p82, p83, p84⟩
        · rintro ρ w150 ⟨S149, v151, C, h156, hT, h59, h152, h0, h22, p153, p154, p155⟩
          refine h156.cw fun ρ => ?_
          clear h156
          obtain ⟨o157, h160, h38⟩ := bnd_some h38
          refine cw_seq' (fun ρ w1 => ∃ S1 v265, Cx No S w S1 w1 ∧ Has ρ [(3, .pointer (some ⟨b5, 0, none⟩)), (6, v151), (7, v265), (12, v0), (13, .int .i64 (a0.length : Int)), (14, .int .i64 x26)] ∧ Tb Tryd.prog "internal/strconv.uint64pow10" .u64 Lib.pow10Tab S1 w1 ∧ Ow kS 9 S1 w.heap.size w1 v151 o64 ∧ Ow kS 9 S1 w.heap.size w1 v265 o157 ∧ Sl (kSl api_Row.k) S1 w1 v0 a0 ∧ Mo (fBd 37 5) S1 w1 (.pointer (some ⟨b5, 0, none⟩)) x27 fp23 ∧ Ap v151 v265 ∧ (∀ b, Blk v151 b → ¬ b ∈ fp23) ∧ (∀ b, Blk v265 b → ¬ b ∈ fp23)) ?_ ?_
          · refine cw_seq fun K161 k162 => ?_
            refine cw_region (sv (rv_fieldAddr st26 rfl rfl) ?_)
            obtain ⟨cs163, h164, h165⟩ := Ow.cellsO h59 (show at_ [y56] (0 : Int) = some y56 from rfl)
            obtain ⟨c166, c168, rfl, g167, g169⟩ := api_Row.r.1 h164
            refine sr (rw_el1 (off := 1) ag24 (h165 _ (Sm.refl _ _)) rfl rfl) (sv (rv_lenS el24 g169 rfl) (sv (mvv (.int .i64 0) rfl) (W.e (k162 _ _ (cw_block ?_)))))
            refine cw_iter h160 (fun s ρ w1 => ∃ S1 v173, Cx No S w S1 w1 ∧ Has ρ [(3, .pointer (some ⟨b5, 0, none⟩)), (6, v151), (7, v173), (12, v0), (13, .int .i64 (a0.length : Int)), (14, .int .i64 x26), (36, c168), (37, .int .i64 (y56.Points.length : Int)), (38, .int .i64 s.2)] ∧ Tb Tryd.prog "internal/strconv.uint64pow10" .u64 Lib.pow10Tab S1 w1 ∧ Ow kS 9 S1 w.heap.size w1 v151 o64 ∧ Ow kS 9 S1 w.heap.size w1 v173 s.1 ∧ Sl (kSl api_Row.k) S1 w1 v0 a0 ∧ Sl (kSl api_Point.k) S1 w1 c168 y56.Points ∧ Mo (fBd 37 5) S1 w1 (.pointer (some ⟨b5, 0, none⟩)) x27 fp23 ∧ Ap v151 v173 ∧ (∀ b, Blk v151 b → ¬ b ∈ fp23) ∧ (∀ b, Blk v173 b → ¬ b ∈ fp23)) ⟨_, _, C, ⟨rfl, rfl, rfl, rfl, rfl, rfl, rfl, rfl, rfl, trivial⟩, hT, h152, Ow.nil _ _ _ _ _, h0, g169, h22, (ap_symm ap_nil), p155, ap_nil⟩ ?_
            rintro ⟨x179, x180⟩ q170 ρ w172 ⟨S171, v173, C, h178, hT, h152, h174, h0, g169, h22, p175, p176, p177⟩ h182 h181
            refine h178.cw fun ρ => ?_
            clear h178
            replace h182 : query_Text.b7 y56 x179 x180 = some q170 := h182
            unfold query_Text.b7 at h182
            refine cw_seq fun K183 k184 => ?_
            refine cw_region (sv (rv_lss rfl rfl) (W.e (k184 _ _ ?_)))
            refine cw_seq fun K185 k186 => ?_
            rcases bif_some h182 with ⟨b187, h182⟩ | ⟨b187, h182⟩
            · refine cw_t rfl b187 (cw_skip (k186 _ _ ?_))
              refine cw_seq fun K188 k189 => ?_
              refine cw_block ?_
              refine cw_seq fun K190 k191 => ?_
              refine cw_region ?_
              obtain ⟨y192, h193, h182⟩ := bnd_some h182
              refine sv (rv_index el24 g169 rfl rfl h193) ?_
              obtain ⟨v194, h195, h196⟩ := rw_loadA (P := Tryd.prog) el24 g169 h193
              obtain rfl := api_Point.o.1 h195
              refine sr (h196 _ (Sm.refl _ _) rfl) ?_
              refine sc (dc_allocO (x0 := (api_Point.mk (0 : Int) (0 : Int))) (base := w.heap.size) el24 zr33 (fun _ => api_Point.r.2 rfl) C.up.size C.sb fun b197 w198 h199 h200 u201 => ?_)
              have p202 := ap_fresh h200 (fun b hb => (h22.lt b hb).1)
              have p203 := ap_fresh h200 (fun b hb => (h174.lt b hb).2)
              have p204 := ap_fresh h200 (fun b hb => (h152.lt b hb).2)
              replace h22 := h22.nw u201
              replace g169 := g169.nw u201
              replace h174 := h174.nw u201
              replace h152 := h152.nw u201
              replace h0 := h0.nw u201
              replace hT := hT.nw u201
              replace C := C.new u201
              obtain ⟨y205, h206, h182⟩ := pur_some h182
              have h210 := h199
              refine sc (dc_storeO el24 h210 (show at_ [(api_Point.mk (0 : Int) (0 : Int))] (0 : Int) = some (api_Point.mk (0 : Int) (0 : Int)) from rfl) rfl rfl (((api_Point.o (x := y192)).2 rfl)) fun w207 h208 u209 => ?_)
              replace h208 : Ow api_Point.k 33 S171 w.heap.size w207 (.slice (some ⟨b197, 0, none⟩) 1 1) [y192] := h208
              rw [h206] at h208
              replace h22 := h22.wr u209 h210.not (ap_symm p202)
              replace g169 := g169.wr u209 h210.not
              replace h174 := h174.wr u209 h210.not (ap_symm p203)
              replace h152 := h152.wr u209 h210.not (ap_symm p204)
              replace h0 := h0.wr u209 h210.not
              replace hT := hT.wr u209 h210.not
              replace C := C.ow h210 u209
              refine W.e (k191 _ _ ?_)
              refine cw_drawU (.one 0 true (.one 1 true (.one 2 true (.one 5 true (.one 6 true (.one 3 false (.one 4 true (.one 7 false (.one 8 true (.one 9 false (.one 10 false (.one 11 true .done)))))))))))) [(2, [1002]), (6, [1002])] [(3, [1002]), (7, [1002]), (9, [1002]), (10, [1002])] (fun c => bif Nat.beq c 1002 then (Or S171 (Blk (.slice (some ⟨b197, 0, none⟩) 1 1))) else No) fol (by kernel_rfl) fun w211 u212 => ?_
              replace h22 := h22.nw u212
              replace h152 := h152.nw u212
              replace h174 := h174.nw u212
              replace h208 := h208.nw u212
              replace h0 := h0.nw u212
              replace g169 := g169.nw u212
              replace hT := hT.nw u212
              replace C := C.new u212
              have h22d := h22
              have h152d := h152
              have h174d := h174
              have h208d := h208
              have h0d := h0
              have g169d := g169
              have hTd := hT
              have m213 := Sm.refl (Or S171 (Blk (.slice (some ⟨b197, 0, none⟩) 1 1))) w211
              refine mtv rfl rfl (mvv v173 rfl) (mtv rfl rfl (rv_fieldAddr st33 rfl rfl) ?_)
              obtain ⟨cs214, h215, h216⟩ := Ow.cellsO h208 (show at_ [y205] (0 : Int) = some y205 from rfl)
              obtain rfl := api_Point.r.1 h215
              refine mtr rfl rfl ⟨m213, trivial⟩ (fun w' hq => rw_el1 (off := 0) ag3 (h216 w' hq.1) rfl rfl) (mtv rfl rfl (rv_fieldAddr st33 rfl rfl) ?_)
              obtain ⟨cs217, h218, h219⟩ := Ow.cellsO h208 (show at_ [y205] (0 : Int) = some y205 from rfl)
              obtain rfl := api_Point.r.1 h218
              refine mtr rfl rfl ⟨m213, trivial⟩ (fun w' hq => rw_el1 (off := 1) ag3 (h219 w' hq.1) rfl rfl) ?_
              obtain ⟨y220, h221, h182⟩ := bnd_some h182
              refine mtc rfl rfl (dc_call (vs := [.int .i64 y205.T]) can7 rfl ?_)
              refine (strconv_Itoa_w C.sb hT h221).mono ?_
              rintro _ w222 ⟨S223, rfl, c224⟩
              refine ⟨_, rfl, ?_⟩
              replace h22 := h22.cx c224
              replace g169 := g169.cx c224
              replace h152 := h152.cx c224
              replace h174 := h174.cx c224
              replace h0 := h0.cx c224
              replace hT := hT.cx c224
              replace C := C.trans c224
              have z225 := (c224.up).size
              have m226 := m213.nx c224.up (by omega)
              refine ⟨⟨m226, trivial⟩, ?_⟩
              obtain ⟨y227, h228, h182⟩ := bnd_some h182
              refine mtv rfl rfl (rv_sadd' rfl rfl h228) ?_
              obtain ⟨y229, h230, h182⟩ := bnd_some h182
              refine mtc rfl rfl (dc_call (vs := [.int .i64 y205.V]) can7 rfl ?_)
              refine (strconv_Itoa_w C.sb hT h230).mono ?_
              rintro _ w231 ⟨S232, rfl, c233⟩
              refine ⟨_, rfl, ?_⟩
              replace h22 := h22.cx c233
              replace g169 := g169.cx c233
              replace h152 := h152.cx c233
              replace h174 := h174.cx c233
              replace h0 := h0.cx c233
              replace hT := hT.cx c233
              replace C := C.trans c233
              have z234 := (c233.up).size
              have m235 := m226.nx c233.up (by omega)
              refine ⟨⟨m235, trivial⟩, ?_⟩
              obtain ⟨y236, h237, h182⟩ := bnd_some h182
              refine mtv rfl rfl (rv_sadd' rfl rfl h237) ?_
              refine mtc rfl rfl (dc_lit (vs := [.string y236]) (xs := ([y236] : List ByteArray)) (base := w.heap.size) el38 rfl rfl (.cons (sl_sc.2 rfl) (.nil)) (Nat.le_of_ble_eq_true rfl) C.up.size C.sb fun v238 w239 h240 h241 u242 => ?_)
              have p243 := ap_fresh h241 (fun b hb => (h22.lt b hb).1)
              have p244 := ap_fresh h241 (fun b hb => (h152.lt b hb).2)
              have p245 := ap_fresh h241 (fun b hb => (h174.lt b hb).2)
              replace h22 := h22.nw u242
              replace g169 := g169.nw u242
              replace h152 := h152.nw u242
              replace h174 := h174.nw u242
              replace h0 := h0.nw u242
              replace hT := hT.nw u242
              replace C := C.new u242
              have z246 := (u242).size
              have m247 := m235.nx u242 (by omega)
              refine ⟨⟨m247, trivial⟩, ?_⟩
              obtain ⟨y248, h249, h182⟩ := bnd_some h182
              have h255 := h174
              refine mtc rfl rfl (dc_append el38 (by decide) h255 h240.src rfl rfl h249 C.up.size C.sb fun v250 w251 h252 u253 h254 => ?_)
              have p256 := ap_grow p177 h254 (fun b hb => (h22.lt b hb).1)
              have p257 := ap_grow (ap_symm p175) h254 (fun b hb => (h152.lt b hb).2)
              replace h22 := h22.wr u253 h255.not (ap_symm p177)
              replace g169 := g169.wr u253 h255.not
              replace h152 := h152.wr u253 h255.not p175
              replace h0 := h0.wr u253 h255.not
              replace hT := hT.wr u253 h255.not
              replace C := C.ow h255 u253
              have z258 := (u253).size
              have m259 := m247.wrC u253 (by omega) (fun b hb hs => hs.elim ((fun b hb hs => h255.not b hb ((fun b h => c233.ge.le b ((fun b h => c224.ge.le b h) b h)) b hs)) b hb) ((ap_symm p203) b hb))
              refine ⟨⟨m259, trivial⟩, ?_⟩
              refine mtv rfl rfl (asv v250 rfl) (MT.e (k189 _ _ (cw_region ?_)))
              obtain ⟨y260, h261, h182⟩ := pur_some h182
              refine sv (rv_add rfl rfl h261) (sv (mvv (.int .i64 y260) rfl) (W.e ?_))
              obtain rfl := Option.some.inj h182
              exact ⟨_, rfl, ⟨_, _, C, ⟨rfl, rfl, rfl, rfl, rfl, rfl, rfl, rfl, rfl, trivial⟩, hT, h152, h252, h0, g169, h22, (ap_symm p257), p176, p256⟩⟩
            · refine cw_f rfl b187 (cw_exit ?_)
              obtain rfl := Option.some.inj h182
              have h262 := congrArg some h181
              obtain rfl := Option.some.inj h262
              exact ⟨_, _, C, ⟨rfl, rfl, rfl, rfl, rfl, rfl, trivial⟩, hT, h152, h174, h0, h22, p175, p176, p177⟩
          · rintro ρ w264 ⟨S263, v265, C, h270, hT, h152, h266, h0, h22, p267, p268, p269⟩
            refine h270.cw fun ρ => ?_
            clear h270
            refine cw_region (sv (mvv v151 rfl) ?_)
            replace h22 := h22.or (ap_symm p268)
            replace h266 := h266.or (ap_symm p267)
            replace h0 := h0.or (T := Blk v151)
            replace hT := hT.or (T := Blk v151)
            replace C := C.sealO h152
            replace h152 := h152.sealed
            obtain ⟨y271, h272, h38⟩ := bnd_some h38
            refine sc (dc_call (vs := [v151, .string (ByteArray.mk #[44])]) can9 rfl ?_)
            refine (strings_Join_w C.sb h152 h272).mono ?_
            rintro _ w273 ⟨S274, rfl, c275⟩
            refine ⟨_, rfl, ?_⟩
            replace h22 := h22.cx c275
            replace h266 := h266.cx c275
            replace h0 := h0.cx c275
            replace hT := hT.cx c275
            replace C := C.trans c275
            obtain ⟨y276, h277, h38⟩ := bnd_some h38
            refine sv (rv_sadd' rfl rfl h277) (sv (mvv v265 rfl) ?_)
            replace h22 := h22.or (ap_symm p269)
            replace h0 := h0.or (T := Blk v265)
            replace hT := hT.or (T := Blk v265)
            replace C := C.sealO h266
            replace h266 := h266.sealed
            obtain ⟨y278, h279, h38⟩ := bnd_some h38
            refine sc (dc_call (vs := [v265, .string (ByteArray.mk #[44])]) can9 rfl ?_)
            refine (strings_Join_w C.sb h266 h279).mono ?_
            rintro _ w280 ⟨S281, rfl, c282⟩
            refine ⟨_, rfl, ?_⟩
            replace h22 := h22.cx c282
            replace h0 := h0.cx c282
            replace hT := hT.cx c282
            replace C := C.trans c282
            obtain ⟨y283, h284, h38⟩ := bnd_some h38
            refine sv (rv_sadd' rfl rfl h284) ?_
            obtain ⟨y285, h286, h38⟩ := bnd_some h38
            refine sv (rv_sadd' rfl rfl h286) ?_
            obtain ⟨y287, h288, h38⟩ := bnd_some h38
            have h293 : ∀ b, b ∈ fp23 → ¬ S281 b := fun b hb => (h22.lt b hb).2
            refine sc (dc_call (vs := [.pointer (some ⟨b5, 0, none⟩), .string y285]) can8 rfl ?_)
            refine (bd_write C.sb h22 h288).mono ?_
            rintro _ w289 ⟨fp294, rfl, u291, h290, h295⟩
            refine ⟨_, rfl, ?_⟩
            have c292 := Cx.ofUp C.sb u291
            have h296 : ∀ b, b ∈ fp294 → w.heap.size ≤ b := fun b hb => (h295 b hb).elim (h24 b) (fun hl => Nat.le_trans C.up.size hl)
            replace h0 := h0.cf c292 h293
            replace hT := hT.cf c292 h293
            replace C := C.ofc c292 (fun b hb => .inr (h24 b hb))
            refine W.e ?_
            obtain rfl := Option.some.inj h38
            exact ⟨_, _, C, ⟨rfl, rfl, rfl, rfl, trivial⟩, hT, h0, h290, h296⟩
      · rintro ρ w298 ⟨S297, fp300, C, h302, hT, h0, h299, h301⟩
        refine h302.cw fun ρ => ?_
        clear h302
        refine cw_region ?_
        obtain ⟨y303, h304, h29⟩ := pur_some h29
        refine sv (rv_add rfl rfl h304) (sv (mvv (.int .i64 y303) rfl) (W.e ?_))
        obtain rfl := Option.some.inj h29
        exact ⟨_, rfl, ⟨_, _, C, ⟨rfl, rfl, rfl, rfl, trivial⟩, hT, h0, h299, h301⟩⟩
    · refine cw_f rfl b34 (cw_exit ?_)
      obtain rfl := Option.some.inj h29
      have h305 := congrArg some h28
      obtain rfl := Option.some.inj h305
      exact ⟨_, _, C, ⟨rfl, trivial⟩, hT, h22, h24⟩
  · rintro ρ w307 ⟨S306, fp309, C, h311, hT, h308, h310⟩
    refine h311.cw fun ρ => ?_
    clear h311
    refine cw_seq fun K312 k313 => ?_
    refine cw_region ?_
    refine sc (dc_call (vs := [.pointer (some ⟨b5, 0, none⟩)]) can10 rfl ?_)
    refine (bd_string h308).mono ?_
    rintro _ w315 ⟨b314, rfl, h316, h317⟩
    refine ⟨_, rfl, ?_⟩
    replace C := Cx.back hS C h317 (h310 _ h316)
    refine sv (asv (.string o13) rfl) (W.e (k313 _ _ (cw_ret ?_)))
    obtain rfl := Option.some.inj h
    exact ⟨_, rfl, _, rfl, C⟩

noncomputable def marigraphlaw16_shown  : Option Bool :=
  ((query_Text ([(api_Row.mk ([(api_Label.mk (ByteArray.mk #[97]) (ByteArray.mk #[49]))] : List api_Label) ([(api_Point.mk (5 : Int) (-2 : Int)), (api_Point.mk (7 : Int) (0 : Int))] : List api_Point))] : List api_Row)).bind fun y21 => some (strEq y21 (ByteArray.mk #[97, 61, 49, 32, 53, 58, 45, 50, 44, 55, 58, 48, 10])))
set_option maxRecDepth 100000 in
set_option maxHeartbeats 4000000 in
theorem marigraphlaw16_shown_w {S : Nat → Prop} {w : World}  {r : Bool} (hS : Sb S w) (hT : Tb Tryd.prog "internal/strconv.uint64pow10" .u64 Lib.pow10Tab S w) (h : marigraphlaw16_shown = some r) :
    Calls Tryd.prog 4 (List.toArray []) w fun e w1 => ∃ S1, e = .returned (.bool r) ∧ Cx No S w S1 w1 := by
  refine enter Tryd.func4 rfl (by kernel_rfl) rfl ?_
  have C := Cx.refl (F := No) hS
  unfold marigraphlaw16_shown at h
  refine cw_seq fun K1 k2 => ?_
  refine cw_region (sv (asv (.bool false) rfl) (W.e (k2 _ _ ?_)))
  refine cw_seq fun K3 k4 => ?_
  refine cw_region (sv (rv_build (r := [.string (ByteArray.mk #[97]), .string (ByteArray.mk #[49])]) st31 zr31 rfl) ?_)
  refine sc (dc_lit (vs := [.agg (List.toArray [.string (ByteArray.mk #[97]), .string (ByteArray.mk #[49])])]) (xs := ([(api_Label.mk (ByteArray.mk #[97]) (ByteArray.mk #[49]))] : List api_Label)) (base := w.heap.size) el23 rfl rfl (.cons ((api_Label.o (x := (api_Label.mk (ByteArray.mk #[97]) (ByteArray.mk #[49])))).2 rfl) (.nil)) (Nat.le_of_ble_eq_true rfl) C.up.size C.sb fun v5 w6 h7 h8 u9 => ?_)
  replace hT := hT.nw u9
  replace C := C.new u9
  refine sv (rv_build (r := [.int .i64 5, .int .i64 (-2)]) st33 zr33 rfl) (sv (rv_build (r := [.int .i64 7, .int .i64 0]) st33 zr33 rfl) ?_)
  refine sc (dc_lit (vs := [.agg (List.toArray [.int .i64 5, .int .i64 (-2)]), .agg (List.toArray [.int .i64 7, .int .i64 0])]) (xs := ([(api_Point.mk (5 : Int) (-2 : Int)), (api_Point.mk (7 : Int) (0 : Int))] : List api_Point)) (base := w.heap.size) el24 rfl rfl (.cons ((api_Point.o (x := (api_Point.mk (5 : Int) (-2 : Int)))).2 rfl) (.cons ((api_Point.o (x := (api_Point.mk (7 : Int) (0 : Int)))).2 rfl) (.nil))) (Nat.le_of_ble_eq_true rfl) C.up.size C.sb fun v10 w11 h12 h13 u14 => ?_)
  have p15 := ap_fresh h13 (fun b hb => (h7.lt b hb).2)
  replace h7 := h7.nw u14
  replace hT := hT.nw u14
  replace C := C.new u14
  replace h12 := h12.or p15
  replace hT := hT.or (T := Blk v5)
  replace C := C.sealO h7
  replace h7 := h7.sealed
  replace h7 := h7.or (T := Blk v10)
  replace hT := hT.or (T := Blk v10)
  replace C := C.sealO h12
  replace h12 := h12.sealed
  refine sv (rv_build (r := [v5, v10]) st26 zr26 (by obtain ⟨_, _, rfl⟩ := h7.len; obtain ⟨_, _, rfl⟩ := h12.len; rfl)) ?_
  refine sc (dc_lit (vs := [.agg (List.toArray [v5, v10])]) (xs := ([(api_Row.mk ([(api_Label.mk (ByteArray.mk #[97]) (ByteArray.mk #[49]))] : List api_Label) ([(api_Point.mk (5 : Int) (-2 : Int)), (api_Point.mk (7 : Int) (0 : Int))] : List api_Point))] : List api_Row)) (base := w.heap.size) el22 rfl rfl (.cons (api_Row.o.2 ⟨_, _, rfl, h7, h12⟩) (.nil)) (Nat.le_of_ble_eq_true rfl) C.up.size C.sb fun v16 w17 h18 h19 u20 => ?_)
  replace hT := hT.nw u20
  replace C := C.new u20
  replace hT := hT.or (T := Blk v16)
  replace C := C.sealO h18
  replace h18 := h18.sealed
  obtain ⟨y21, h22, h⟩ := bnd_some h
  refine sc (dc_call (vs := [v16]) can5 rfl ?_)
  refine (query_Text_w C.sb hT h18 h22).mono ?_
  rintro _ w23 ⟨S24, rfl, c25⟩
  refine ⟨_, rfl, ?_⟩
  replace hT := hT.cx c25
  replace C := C.trans c25
  refine sv (rv_seql rfl rfl) (sv (asv (.bool (strEq y21 (ByteArray.mk #[97, 61, 49, 32, 53, 58, 45, 50, 44, 55, 58, 48, 10]))) rfl) (W.e (k4 _ _ (cw_ret ?_))))
  obtain rfl := Option.some.inj h
  exact ⟨_, rfl, _, rfl, C⟩

noncomputable def marigraphref16_Digits : Nat → Int → Option ByteArray
  | 0, _ => none
  | n + 1, a0 =>
  (bif (decide (a0 < (-9 : Int))) then (pur (IntKind.i64.wrap (Int.tdiv a0 (10 : Int))) fun y10 => (pur (IntKind.i64.wrap (0 - y10)) fun y12 => ((marigraphref16_Digits n y12).bind fun y14 => ((sadd_ (ByteArray.mk #[45]) y14).bind fun y19 => (pur (Int.tmod a0 (10 : Int)) fun y21 => (pur (IntKind.i64.wrap (0 - y21)) fun y23 => ((marigraphref16_Digits n y23).bind fun y25 => ((sadd_ y19 y25).bind fun y30 => some y30)))))))) else (bif (decide (a0 < (0 : Int))) then (pur (IntKind.i64.wrap (0 - a0)) fun y39 => ((marigraphref16_Digits n y39).bind fun y41 => ((sadd_ (ByteArray.mk #[45]) y41).bind fun y46 => some y46))) else (bif (decide ((9 : Int) < a0)) then (pur (IntKind.i64.wrap (Int.tdiv a0 (10 : Int))) fun y55 => ((marigraphref16_Digits n y55).bind fun y57 => (pur (Int.tmod a0 (10 : Int)) fun y62 => ((marigraphref16_Digits n y62).bind fun y64 => ((sadd_ y57 y64).bind fun y69 => some y69))))) else (pur (IntKind.i64.wrap ((48 : Int) + a0)) fun y73 => (pur (IntKind.u8.wrap y73) fun y75 => some (strOf ([y75] : List Int)))))))
set_option maxRecDepth 100000 in
set_option maxHeartbeats 4000000 in
theorem marigraphref16_Digits_w (n : Nat) : ∀ {S : Nat → Prop} {w : World} {a0 : Int} {r : ByteArray} (hS : Sb S w)  (h : marigraphref16_Digits n a0 = some r),
    Calls Tryd.prog 11 (List.toArray [.int .i64 a0]) w fun e w1 => ∃ S1, e = .returned (.string r) ∧ Cx No S w S1 w1 := by
  induction n with
  | zero => intros; rename_i h; rw [marigraphref16_Digits] at h; cases h
  | succ n ih =>
  intro S w a0 r hS h
  refine enter Tryd.func11 rfl (by kernel_rfl) rfl ?_
  have C := Cx.refl (F := No) hS
  rw [marigraphref16_Digits] at h
  refine cw_seq fun K1 k2 => ?_
  refine cw_region (sv (asv (.string ByteArray.empty) rfl) (W.e (k2 _ _ ?_)))
  refine cw_seq fun K3 k4 => ?_
  refine cw_seq fun K5 k6 => ?_
  refine cw_region (sv (mvv (.int .i64 a0) rfl) (sv (rv_lss rfl rfl) (W.e (k6 _ _ ?_))))
  rcases bif_some h with ⟨b7, h⟩ | ⟨b7, h⟩
  · refine cw_t rfl b7 ?_
    refine cw_seq fun K8 k9 => ?_
    refine cw_region (sv (mvv (.int .i64 a0) rfl) ?_)
    obtain ⟨y10, h11, h⟩ := pur_some h
    refine sv (rv_quo rfl rfl (by decide) h11) ?_
    obtain ⟨y12, h13, h⟩ := pur_some h
    refine sv (rv_neg rfl h13) ?_
    obtain ⟨y14, h15, h⟩ := bnd_some h
    refine sc (dc_call (vs := [.int .i64 y12]) can11 rfl ?_)
    refine (ih C.sb  h15).mono ?_
    rintro _ w16 ⟨S17, rfl, c18⟩
    refine ⟨_, rfl, ?_⟩
    replace C := C.trans c18
    obtain ⟨y19, h20, h⟩ := bnd_some h
    refine sv (rv_sadd' rfl rfl h20) (sv (mvv (.int .i64 a0) rfl) ?_)
    obtain ⟨y21, h22, h⟩ := pur_some h
    refine sv (rv_rem rfl rfl (by decide) h22) ?_
    obtain ⟨y23, h24, h⟩ := pur_some h
    refine sv (rv_neg rfl h24) ?_
    obtain ⟨y25, h26, h⟩ := bnd_some h
    refine sc (dc_call (vs := [.int .i64 y23]) can11 rfl ?_)
    refine (ih C.sb  h26).mono ?_
    rintro _ w27 ⟨S28, rfl, c29⟩
    refine ⟨_, rfl, ?_⟩
    replace C := C.trans c29
    obtain ⟨y30, h31, h⟩ := bnd_some h
    refine sv (rv_sadd' rfl rfl h31) (sv (asv (.string y30) rfl) (W.e (k9 _ _ (cw_ret ?_))))
    obtain rfl := Option.some.inj h
    exact ⟨_, rfl, _, rfl, C⟩
  · refine cw_f rfl b7 (cw_skip (k4 _ _ ?_))
    refine cw_seq fun K32 k33 => ?_
    refine cw_seq fun K34 k35 => ?_
    refine cw_region (sv (mvv (.int .i64 a0) rfl) (sv (rv_lss rfl rfl) (W.e (k35 _ _ ?_))))
    rcases bif_some h with ⟨b36, h⟩ | ⟨b36, h⟩
    · refine cw_t rfl b36 ?_
      refine cw_seq fun K37 k38 => ?_
      refine cw_region (sv (mvv (.int .i64 a0) rfl) ?_)
      obtain ⟨y39, h40, h⟩ := pur_some h
      refine sv (rv_neg rfl h40) ?_
      obtain ⟨y41, h42, h⟩ := bnd_some h
      refine sc (dc_call (vs := [.int .i64 y39]) can11 rfl ?_)
      refine (ih C.sb  h42).mono ?_
      rintro _ w43 ⟨S44, rfl, c45⟩
      refine ⟨_, rfl, ?_⟩
      replace C := C.trans c45
      obtain ⟨y46, h47, h⟩ := bnd_some h
      refine sv (rv_sadd' rfl rfl h47) (sv (asv (.string y46) rfl) (W.e (k38 _ _ (cw_ret ?_))))
      obtain rfl := Option.some.inj h
      exact ⟨_, rfl, _, rfl, C⟩
    · refine cw_f rfl b36 (cw_skip (k33 _ _ ?_))
      refine cw_seq fun K48 k49 => ?_
      refine cw_seq fun K50 k51 => ?_
      refine cw_region (sv (mvv (.int .i64 a0) rfl) (sv (rv_gtr rfl rfl) (W.e (k51 _ _ ?_))))
      rcases bif_some h with ⟨b52, h⟩ | ⟨b52, h⟩
      · refine cw_t rfl b52 ?_
        refine cw_seq fun K53 k54 => ?_
        refine cw_region (sv (mvv (.int .i64 a0) rfl) ?_)
        obtain ⟨y55, h56, h⟩ := pur_some h
        refine sv (rv_quo rfl rfl (by decide) h56) ?_
        obtain ⟨y57, h58, h⟩ := bnd_some h
        refine sc (dc_call (vs := [.int .i64 y55]) can11 rfl ?_)
        refine (ih C.sb  h58).mono ?_
        rintro _ w59 ⟨S60, rfl, c61⟩
        refine ⟨_, rfl, ?_⟩
        replace C := C.trans c61
        refine sv (mvv (.int .i64 a0) rfl) ?_
        obtain ⟨y62, h63, h⟩ := pur_some h
        refine sv (rv_rem rfl rfl (by decide) h63) ?_
        obtain ⟨y64, h65, h⟩ := bnd_some h
        refine sc (dc_call (vs := [.int .i64 y62]) can11 rfl ?_)
        refine (ih C.sb  h65).mono ?_
        rintro _ w66 ⟨S67, rfl, c68⟩
        refine ⟨_, rfl, ?_⟩
        replace C := C.trans c68
        obtain ⟨y69, h70, h⟩ := bnd_some h
        refine sv (rv_sadd' rfl rfl h70) (sv (asv (.string y69) rfl) (W.e (k54 _ _ (cw_ret ?_))))
        obtain rfl := Option.some.inj h
        exact ⟨_, rfl, _, rfl, C⟩
      · refine cw_f rfl b52 (cw_skip (k49 _ _ ?_))
        refine cw_seq fun K71 k72 => ?_
        refine cw_region (sv (mvv (.int .i64 a0) rfl) ?_)
        obtain ⟨y73, h74, h⟩ := pur_some h
        refine sv (rv_add rfl rfl h74) ?_
        obtain ⟨y75, h76, h⟩ := pur_some h
        refine sv (rv_conv Tryd.underlying3 Tryd.underlying5 rfl h76) ?_
        refine sc (dc_lit (vs := [.int .u8 y75]) (xs := ([y75] : List Int)) (base := w.heap.size) el35 rfl rfl (.cons (sl_sc.2 rfl) (.nil)) (Nat.le_of_ble_eq_true rfl) C.up.size C.sb fun v77 w78 h79 h80 u81 => ?_)
        replace C := C.new u81
        refine sr (rw_str h79.sealed (Sm.refl _ _) Tryd.underlying35 Tryd.underlying5 Tryd.underlying9 rfl) (sv (asv (.string (strOf ([y75] : List Int))) rfl) (W.e (k72 _ _ (cw_ret ?_))))
        obtain rfl := Option.some.inj h
        exact ⟨_, rfl, _, rfl, C⟩

noncomputable def marigraphref16_Text.b5 (a0 : List api_Row) (x16 : Int) (x38 : ByteArray) (x39 : Int) : Option ((ByteArray × Int) ⊕ (ByteArray)) :=
  ((at_ a0 x16).bind fun y46 => (bif (decide (x39 < (y46.Labels.length : Int))) then (((bif (decide ((0 : Int) < x39)) then ((sadd_ x38 (ByteArray.mk #[44])).bind fun y67 => some y67) else some x38).bind fun o60 => ((at_ a0 x16).bind fun y75 => ((at_ y75.Labels x39).bind fun y84 => ((sadd_ o60 y84.Name).bind fun y89 => ((sadd_ y89 (ByteArray.mk #[61])).bind fun y91 => ((at_ a0 x16).bind fun y93 => ((at_ y93.Labels x39).bind fun y102 => ((sadd_ y91 y102.Val).bind fun y107 => some y107)))))))).bind fun o56 => (pur (IntKind.i64.wrap (x39 + (1 : Int))) fun y112 => some (.inl (o56, y112)))) else some (.inr x38)))
noncomputable def marigraphref16_Text.b9 (a0 : List api_Row) (x16 : Int) (x132 : ByteArray) (x133 : Int) : Option ((ByteArray × Int) ⊕ (ByteArray)) :=
  ((at_ a0 x16).bind fun y140 => (bif (decide (x133 < (y140.Points.length : Int))) then (((bif (decide ((0 : Int) < x133)) then ((sadd_ x132 (ByteArray.mk #[44])).bind fun y161 => some y161) else some x132).bind fun o154 => ((at_ a0 x16).bind fun y169 => ((at_ y169.Points x133).bind fun y178 => ((at_ a0 x16).bind fun y183 => ((at_ y183.Points x133).bind fun y192 => ((marigraphref16_Digits 64 y178.T).bind fun y197 => ((sadd_ o154 y197).bind fun y204 => ((sadd_ y204 (ByteArray.mk #[58])).bind fun y206 => ((marigraphref16_Digits 64 y192.V).bind fun y208 => ((sadd_ y206 y208).bind fun y215 => some y215)))))))))).bind fun o150 => (pur (IntKind.i64.wrap (x133 + (1 : Int))) fun y220 => some (.inl (o150, y220)))) else some (.inr x132)))
noncomputable def marigraphref16_Text.b2 (a0 : List api_Row) (x15 : ByteArray) (x16 : Int) : Option ((ByteArray × Int) ⊕ (ByteArray)) :=
  (bif (decide (x16 < (a0.length : Int))) then (((iter (fun s : ByteArray × Int => marigraphref16_Text.b5 a0 x16 s.1 s.2) (x15, (0 : Int))).bind fun o28 => ((sadd_ o28 (ByteArray.mk #[32])).bind fun y120 => ((iter (fun s : ByteArray × Int => marigraphref16_Text.b9 a0 x16 s.1 s.2) (y120, (0 : Int))).bind fun o122 => ((sadd_ o122 (ByteArray.mk #[10])).bind fun y226 => some y226)))).bind fun o24 => (pur (IntKind.i64.wrap (x16 + (1 : Int))) fun y231 => some (.inl (o24, y231)))) else some (.inr x15))
noncomputable def marigraphref16_Text (a0 : List api_Row) : Option ByteArray :=
  ((iter (fun s : ByteArray × Int => marigraphref16_Text.b2 a0 s.1 s.2) (ByteArray.empty, (0 : Int))).bind fun o5 => some o5)
set_option maxRecDepth 100000 in
set_option maxHeartbeats 4000000 in
theorem marigraphref16_Text_w {S : Nat → Prop} {w : World} {a0 : List api_Row} {v0 : Value} {r : ByteArray} (hS : Sb S w) (h0 : Sl (kSl api_Row.k) S w v0 a0) (h : marigraphref16_Text a0 = some r) :
    Calls Tryd.prog 6 (List.toArray [v0]) w fun e w1 => ∃ S1, e = .returned (.string r) ∧ Cx No S w S1 w1 := by
  refine enter Tryd.func6 rfl (by kernel_rfl) rfl ?_
  have C := Cx.refl (F := No) hS
  unfold marigraphref16_Text at h
  refine cw_seq fun K1 k2 => ?_
  refine cw_region (sv (asv (.string ByteArray.empty) rfl) (W.e (k2 _ _ ?_)))
  refine cw_seq fun K3 k4 => ?_
  refine cw_region (sv (asv (.string ByteArray.empty) rfl) (W.e (k4 _ _ ?_)))
  obtain ⟨o5, h8, h⟩ := bnd_some h
  refine cw_seq' (fun ρ w1 => ∃ S1, Cx No S w S1 w1 ∧ Has ρ [(3, .string o5)]) ?_ ?_
  · refine cw_seq fun K9 k10 => ?_
    refine cw_region (sv (asv (.int .i64 0) rfl) (W.e (k10 _ _ (cw_block ?_))))
    refine cw_iter h8 (fun s ρ w1 => ∃ S1, Cx No S w S1 w1 ∧ Has ρ [(0, v0), (3, .string s.1), (4, .int .i64 s.2)] ∧ Sl (kSl api_Row.k) S1 w1 v0 a0) ⟨_, C, ⟨rfl, rfl, rfl, trivial⟩, h0⟩ ?_
    rintro ⟨x15, x16⟩ q11 ρ w13 ⟨S12, C, h14, h0⟩ h18 h17
    refine h14.cw fun ρ => ?_
    clear h14
    replace h18 : marigraphref16_Text.b2 a0 x15 x16 = some q11 := h18
    unfold marigraphref16_Text.b2 at h18
    refine cw_seq fun K19 k20 => ?_
    refine cw_seq fun K21 k22 => ?_
    refine cw_region (sv (mvv (.int .i64 x16) rfl) (sv (mvv v0 rfl) (sv (rv_lenS el22 h0 rfl) (sv (rv_lss rfl rfl) (W.e (k22 _ _ ?_))))))
    rcases bif_some h18 with ⟨b23, h18⟩ | ⟨b23, h18⟩
    · refine cw_t rfl b23 (cw_skip (k20 _ _ ?_))
      obtain ⟨o24, h27, h18⟩ := bnd_some h18
      refine cw_seq' (fun ρ w1 => ∃ S1, Cx No S w S1 w1 ∧ Has ρ [(0, v0), (3, .string o24), (4, .int .i64 x16)] ∧ Sl (kSl api_Row.k) S1 w1 v0 a0) ?_ ?_
      · refine cw_block ?_
        obtain ⟨o28, h31, h27⟩ := bnd_some h27
        refine cw_seq' (fun ρ w1 => ∃ S1, Cx No S w S1 w1 ∧ Has ρ [(0, v0), (3, .string o28), (4, .int .i64 x16)] ∧ Sl (kSl api_Row.k) S1 w1 v0 a0) ?_ ?_
        · refine cw_seq fun K32 k33 => ?_
          refine cw_region (sv (asv (.int .i64 0) rfl) (W.e (k33 _ _ (cw_block ?_))))
          refine cw_iter h31 (fun s ρ w1 => ∃ S1, Cx No S w S1 w1 ∧ Has ρ [(0, v0), (3, .string s.1), (4, .int .i64 x16), (5, .int .i64 s.2)] ∧ Sl (kSl api_Row.k) S1 w1 v0 a0) ⟨_, C, ⟨rfl, rfl, rfl, rfl, trivial⟩, h0⟩ ?_
          rintro ⟨x38, x39⟩ q34 ρ w36 ⟨S35, C, h37, h0⟩ h41 h40
          refine h37.cw fun ρ => ?_
          clear h37
          replace h41 : marigraphref16_Text.b5 a0 x16 x38 x39 = some q34 := h41
          unfold marigraphref16_Text.b5 at h41
          refine cw_seq fun K42 k43 => ?_
          refine cw_seq fun K44 k45 => ?_
          refine cw_region (sv (mvv (.int .i64 x39) rfl) (sv (mvv v0 rfl) (sv (mvv (.int .i64 x16) rfl) ?_)))
          obtain ⟨y46, h47, h41⟩ := bnd_some h41
          refine sv (rv_index el22 h0 rfl rfl h47) (sv (rv_fieldAddr st26 rfl rfl) ?_)
          obtain ⟨cs48, h49, h50⟩ := Sl.cells h0 h47
          obtain ⟨c51, c53, rfl, g52, g54⟩ := api_Row.r.1 h49
          refine sr (rw_el1 (off := 0) ag23 (h50 _ (Sm.refl _ _)) rfl rfl) (sv (rv_lenS el23 g52 rfl) (sv (rv_lss rfl rfl) (W.e (k45 _ _ ?_))))
          rcases bif_some h41 with ⟨b55, h41⟩ | ⟨b55, h41⟩
          · refine cw_t rfl b55 (cw_skip (k43 _ _ ?_))
            obtain ⟨o56, h59, h41⟩ := bnd_some h41
            refine cw_seq' (fun ρ w1 => ∃ S1, Cx No S w S1 w1 ∧ Has ρ [(0, v0), (3, .string o56), (4, .int .i64 x16), (5, .int .i64 x39)] ∧ Sl (kSl api_Row.k) S1 w1 v0 a0) ?_ ?_
            · refine cw_block ?_
              obtain ⟨o60, h63, h59⟩ := bnd_some h59
              refine cw_seq' (fun ρ w1 => ∃ S1, Cx No S w S1 w1 ∧ Has ρ [(0, v0), (3, .string o60), (4, .int .i64 x16), (5, .int .i64 x39)] ∧ Sl (kSl api_Row.k) S1 w1 v0 a0) ?_ ?_
              · refine cw_seq fun K64 k65 => ?_
                refine cw_region (sv (mvv (.int .i64 x39) rfl) (sv (rv_gtr rfl rfl) (W.e (k65 _ _ ?_))))
                rcases bif_some h63 with ⟨b66, h63⟩ | ⟨b66, h63⟩
                · refine cw_t rfl b66 (cw_region (sv (mvv (.string x38) rfl) ?_))
                  obtain ⟨y67, h68, h63⟩ := bnd_some h63
                  refine sv (rv_sadd' rfl rfl h68) (sv (asv (.string y67) rfl) (W.e ?_))
                  obtain rfl := Option.some.inj h63
                  exact ⟨_, C, ⟨rfl, rfl, rfl, rfl, trivial⟩, h0⟩
                · refine cw_f rfl b66 (cw_skip ?_)
                  obtain rfl := Option.some.inj h63
                  exact ⟨_, C, ⟨rfl, rfl, rfl, rfl, trivial⟩, h0⟩
              · rintro ρ w70 ⟨S69, C, h71, h0⟩
                refine h71.cw fun ρ => ?_
                clear h71
                refine cw_drawU (.one 0 true (.one 1 true (.one 2 true (.one 3 true (.one 4 true (.one 5 true (.one 6 true (.one 7 true (.one 8 true (.one 9 true (.one 10 true (.one 11 true (.one 12 true (.one 13 true (.one 14 true (.one 15 true (.one 16 true (.one 17 true (.one 18 true (.one 19 true (.one 20 true (.one 21 true (.one 22 true .done))))))))))))))))))))))) [(5, [9]), (9, [9]), (16, [9]), (20, [9])] [] (fun c => bif Nat.beq c 9 then (fun _ => True) else No) fol (by kernel_rfl) fun w72 u73 => ?_
                replace h0 := h0.nw u73
                replace C := C.new u73
                have m74 := Sm.refl (fun _ => True) w72
                refine mtv rfl rfl (mvv (.string o60) rfl) (mtv rfl rfl (mvv v0 rfl) (mtv rfl rfl (mvv (.int .i64 x16) rfl) ?_))
                obtain ⟨y75, h76, h59⟩ := bnd_some h59
                refine mtv rfl rfl (rv_index el22 h0 rfl rfl h76) (mtv rfl rfl (rv_fieldAddr st26 rfl rfl) ?_)
                obtain ⟨cs77, h78, h79⟩ := Sl.cells h0 h76
                obtain ⟨c80, c82, rfl, g81, g83⟩ := api_Row.r.1 h78
                refine mtr rfl rfl ⟨m74, trivial⟩ (fun w' hq => rw_el1 (off := 0) ag23 (h79 w' (hq.1.mono fun _ _ => trivial)) rfl rfl) (mtv rfl rfl (mvv (.int .i64 x39) rfl) ?_)
                obtain ⟨y84, h85, h59⟩ := bnd_some h59
                refine mtv rfl rfl (rv_index el23 g81 rfl rfl h85) (mtv rfl rfl (rv_fieldAddr st31 rfl rfl) ?_)
                obtain ⟨cs86, h87, h88⟩ := Sl.cells g81 h85
                obtain rfl := api_Label.r.1 h87
                refine mtr rfl rfl ⟨m74, trivial⟩ (fun w' hq => rw_el1 (off := 0) ag9 (h88 w' (hq.1.mono fun _ _ => trivial)) rfl rfl) ?_
                obtain ⟨y89, h90, h59⟩ := bnd_some h59
                refine mtv rfl rfl (rv_sadd' rfl rfl h90) ?_
                obtain ⟨y91, h92, h59⟩ := bnd_some h59
                refine mtv rfl rfl (rv_sadd' rfl rfl h92) (mtv rfl rfl (mvv v0 rfl) (mtv rfl rfl (mvv (.int .i64 x16) rfl) ?_))
                obtain ⟨y93, h94, h59⟩ := bnd_some h59
                refine mtv rfl rfl (rv_index el22 h0 rfl rfl h94) (mtv rfl rfl (rv_fieldAddr st26 rfl rfl) ?_)
                obtain ⟨cs95, h96, h97⟩ := Sl.cells h0 h94
                obtain ⟨c98, c100, rfl, g99, g101⟩ := api_Row.r.1 h96
                refine mtr rfl rfl ⟨m74, trivial⟩ (fun w' hq => rw_el1 (off := 0) ag23 (h97 w' (hq.1.mono fun _ _ => trivial)) rfl rfl) (mtv rfl rfl (mvv (.int .i64 x39) rfl) ?_)
                obtain ⟨y102, h103, h59⟩ := bnd_some h59
                refine mtv rfl rfl (rv_index el23 g99 rfl rfl h103) (mtv rfl rfl (rv_fieldAddr st31 rfl rfl) ?_)
                obtain ⟨cs104, h105, h106⟩ := Sl.cells g99 h103
                obtain rfl := api_Label.r.1 h105
                refine mtr rfl rfl ⟨m74, trivial⟩ (fun w' hq => rw_el1 (off := 1) ag9 (h106 w' (hq.1.mono fun _ _ => trivial)) rfl rfl) ?_
                obtain ⟨y107, h108, h59⟩ := bnd_some h59
                refine mtv rfl rfl (rv_sadd' rfl rfl h108) (mtv rfl rfl (asv (.string y107) rfl) (MT.e ?_))
                obtain rfl := Option.some.inj h59
                exact ⟨_, C, ⟨rfl, rfl, rfl, rfl, trivial⟩, h0⟩
            · rintro ρ w110 ⟨S109, C, h111, h0⟩
              refine h111.cw fun ρ => ?_
              clear h111
              refine cw_region (sv (mvv (.int .i64 x39) rfl) ?_)
              obtain ⟨y112, h113, h41⟩ := pur_some h41
              refine sv (rv_add rfl rfl h113) (sv (asv (.int .i64 y112) rfl) (W.e ?_))
              obtain rfl := Option.some.inj h41
              exact ⟨_, rfl, ⟨_, C, ⟨rfl, rfl, rfl, rfl, trivial⟩, h0⟩⟩
          · refine cw_f rfl b55 (cw_exit ?_)
            obtain rfl := Option.some.inj h41
            have h114 := congrArg some h40
            obtain rfl := Option.some.inj h114
            exact ⟨_, C, ⟨rfl, rfl, rfl, trivial⟩, h0⟩
        · rintro ρ w116 ⟨S115, C, h117, h0⟩
          refine h117.cw fun ρ => ?_
          clear h117
          refine cw_seq fun K118 k119 => ?_
          refine cw_region (sv (mvv (.string o28) rfl) ?_)
          obtain ⟨y120, h121, h27⟩ := bnd_some h27
          refine sv (rv_sadd' rfl rfl h121) (sv (asv (.string y120) rfl) (W.e (k119 _ _ ?_)))
          obtain ⟨o122, h125, h27⟩ := bnd_some h27
          refine cw_seq' (fun ρ w1 => ∃ S1, Cx No S w S1 w1 ∧ Has ρ [(0, v0), (3, .string o122), (4, .int .i64 x16)] ∧ Sl (kSl api_Row.k) S1 w1 v0 a0) ?_ ?_
          · refine cw_seq fun K126 k127 => ?_
            refine cw_region (sv (asv (.int .i64 0) rfl) (W.e (k127 _ _ (cw_block ?_))))
            refine cw_iter h125 (fun s ρ w1 => ∃ S1, Cx No S w S1 w1 ∧ Has ρ [(0, v0), (3, .string s.1), (4, .int .i64 x16), (6, .int .i64 s.2)] ∧ Sl (kSl api_Row.k) S1 w1 v0 a0) ⟨_, C, ⟨rfl, rfl, rfl, rfl, trivial⟩, h0⟩ ?_
            rintro ⟨x132, x133⟩ q128 ρ w130 ⟨S129, C, h131, h0⟩ h135 h134
            refine h131.cw fun ρ => ?_
            clear h131
            replace h135 : marigraphref16_Text.b9 a0 x16 x132 x133 = some q128 := h135
            unfold marigraphref16_Text.b9 at h135
            refine cw_seq fun K136 k137 => ?_
            refine cw_seq fun K138 k139 => ?_
            refine cw_region (sv (mvv (.int .i64 x133) rfl) (sv (mvv v0 rfl) (sv (mvv (.int .i64 x16) rfl) ?_)))
            obtain ⟨y140, h141, h135⟩ := bnd_some h135
            refine sv (rv_index el22 h0 rfl rfl h141) (sv (rv_fieldAddr st26 rfl rfl) ?_)
            obtain ⟨cs142, h143, h144⟩ := Sl.cells h0 h141
            obtain ⟨c145, c147, rfl, g146, g148⟩ := api_Row.r.1 h143
            refine sr (rw_el1 (off := 1) ag24 (h144 _ (Sm.refl _ _)) rfl rfl) (sv (rv_lenS el24 g148 rfl) (sv (rv_lss rfl rfl) (W.e (k139 _ _ ?_))))
            rcases bif_some h135 with ⟨b149, h135⟩ | ⟨b149, h135⟩
            · refine cw_t rfl b149 (cw_skip (k137 _ _ ?_))
              obtain ⟨o150, h153, h135⟩ := bnd_some h135
              refine cw_seq' (fun ρ w1 => ∃ S1, Cx No S w S1 w1 ∧ Has ρ [(0, v0), (3, .string o150), (4, .int .i64 x16), (6, .int .i64 x133)] ∧ Sl (kSl api_Row.k) S1 w1 v0 a0) ?_ ?_
              · refine cw_block ?_
                obtain ⟨o154, h157, h153⟩ := bnd_some h153
                refine cw_seq' (fun ρ w1 => ∃ S1, Cx No S w S1 w1 ∧ Has ρ [(0, v0), (3, .string o154), (4, .int .i64 x16), (6, .int .i64 x133)] ∧ Sl (kSl api_Row.k) S1 w1 v0 a0) ?_ ?_
                · refine cw_seq fun K158 k159 => ?_
                  refine cw_region (sv (mvv (.int .i64 x133) rfl) (sv (rv_gtr rfl rfl) (W.e (k159 _ _ ?_))))
                  rcases bif_some h157 with ⟨b160, h157⟩ | ⟨b160, h157⟩
                  · refine cw_t rfl b160 (cw_region (sv (mvv (.string x132) rfl) ?_))
                    obtain ⟨y161, h162, h157⟩ := bnd_some h157
                    refine sv (rv_sadd' rfl rfl h162) (sv (asv (.string y161) rfl) (W.e ?_))
                    obtain rfl := Option.some.inj h157
                    exact ⟨_, C, ⟨rfl, rfl, rfl, rfl, trivial⟩, h0⟩
                  · refine cw_f rfl b160 (cw_skip ?_)
                    obtain rfl := Option.some.inj h157
                    exact ⟨_, C, ⟨rfl, rfl, rfl, rfl, trivial⟩, h0⟩
                · rintro ρ w164 ⟨S163, C, h165, h0⟩
                  refine h165.cw fun ρ => ?_
                  clear h165
                  refine cw_drawU (.one 0 true (.one 1 true (.one 2 true (.one 3 true (.one 4 true (.one 5 true (.one 6 true (.one 7 true (.one 8 true (.one 9 true (.one 13 true (.one 14 true (.one 15 true (.one 16 true (.one 17 true (.one 18 true (.one 19 true (.one 20 true (.one 21 true (.one 10 false (.one 11 true (.one 12 true (.one 22 false (.one 23 true (.one 24 true .done))))))))))))))))))))))))) [(5, [9]), (9, [9]), (17, [9]), (21, [9])] [(10, [9]), (22, [9])] (fun c => bif Nat.beq c 9 then (fun _ => True) else No) fol (by kernel_rfl) fun w166 u167 => ?_
                  replace h0 := h0.nw u167
                  replace C := C.new u167
                  have h0d := h0
                  have m168 := Sm.refl (fun _ => True) w166
                  refine mtv rfl rfl (mvv (.string o154) rfl) (mtv rfl rfl (mvv v0 rfl) (mtv rfl rfl (mvv (.int .i64 x16) rfl) ?_))
                  obtain ⟨y169, h170, h153⟩ := bnd_some h153
                  refine mtv rfl rfl (rv_index el22 h0 rfl rfl h170) (mtv rfl rfl (rv_fieldAddr st26 rfl rfl) ?_)
                  obtain ⟨cs171, h172, h173⟩ := Sl.cells h0 h170
                  obtain ⟨c174, c176, rfl, g175, g177⟩ := api_Row.r.1 h172
                  refine mtr rfl rfl ⟨m168, trivial⟩ (fun w' hq => rw_el1 (off := 1) ag24 (h173 w' (hq.1.mono fun _ _ => trivial)) rfl rfl) (mtv rfl rfl (mvv (.int .i64 x133) rfl) ?_)
                  obtain ⟨y178, h179, h153⟩ := bnd_some h153
                  refine mtv rfl rfl (rv_index el24 g177 rfl rfl h179) (mtv rfl rfl (rv_fieldAddr st33 rfl rfl) ?_)
                  obtain ⟨cs180, h181, h182⟩ := Sl.cells g177 h179
                  obtain rfl := api_Point.r.1 h181
                  refine mtr rfl rfl ⟨m168, trivial⟩ (fun w' hq => rw_el1 (off := 0) ag3 (h182 w' (hq.1.mono fun _ _ => trivial)) rfl rfl) (mtv rfl rfl (mvv v0 rfl) (mtv rfl rfl (mvv (.int .i64 x16) rfl) ?_))
                  obtain ⟨y183, h184, h153⟩ := bnd_some h153
                  refine mtv rfl rfl (rv_index el22 h0 rfl rfl h184) (mtv rfl rfl (rv_fieldAddr st26 rfl rfl) ?_)
                  obtain ⟨cs185, h186, h187⟩ := Sl.cells h0 h184
                  obtain ⟨c188, c190, rfl, g189, g191⟩ := api_Row.r.1 h186
                  refine mtr rfl rfl ⟨m168, trivial⟩ (fun w' hq => rw_el1 (off := 1) ag24 (h187 w' (hq.1.mono fun _ _ => trivial)) rfl rfl) (mtv rfl rfl (mvv (.int .i64 x133) rfl) ?_)
                  obtain ⟨y192, h193, h153⟩ := bnd_some h153
                  refine mtv rfl rfl (rv_index el24 g191 rfl rfl h193) (mtv rfl rfl (rv_fieldAddr st33 rfl rfl) ?_)
                  obtain ⟨cs194, h195, h196⟩ := Sl.cells g191 h193
                  obtain rfl := api_Point.r.1 h195
                  refine mtr rfl rfl ⟨m168, trivial⟩ (fun w' hq => rw_el1 (off := 1) ag3 (h196 w' (hq.1.mono fun _ _ => trivial)) rfl rfl) ?_
                  obtain ⟨y197, h198, h153⟩ := bnd_some h153
                  refine mtc rfl rfl (dc_call (vs := [.int .i64 y178.T]) can11 rfl ?_)
                  refine (marigraphref16_Digits_w 64 C.sb  h198).mono ?_
                  rintro _ w199 ⟨S200, rfl, c201⟩
                  refine ⟨_, rfl, ?_⟩
                  replace h0 := h0.cx c201
                  replace C := C.trans c201
                  have z202 := (c201.up).size
                  have m203 := m168.nx c201.up (by omega)
                  refine ⟨⟨m203, trivial⟩, ?_⟩
                  obtain ⟨y204, h205, h153⟩ := bnd_some h153
                  refine mtv rfl rfl (rv_sadd' rfl rfl h205) ?_
                  obtain ⟨y206, h207, h153⟩ := bnd_some h153
                  refine mtv rfl rfl (rv_sadd' rfl rfl h207) ?_
                  obtain ⟨y208, h209, h153⟩ := bnd_some h153
                  refine mtc rfl rfl (dc_call (vs := [.int .i64 y192.V]) can11 rfl ?_)
                  refine (marigraphref16_Digits_w 64 C.sb  h209).mono ?_
                  rintro _ w210 ⟨S211, rfl, c212⟩
                  refine ⟨_, rfl, ?_⟩
                  replace h0 := h0.cx c212
                  replace C := C.trans c212
                  have z213 := (c212.up).size
                  have m214 := m203.nx c212.up (by omega)
                  refine ⟨⟨m214, trivial⟩, ?_⟩
                  obtain ⟨y215, h216, h153⟩ := bnd_some h153
                  refine mtv rfl rfl (rv_sadd' rfl rfl h216) (mtv rfl rfl (asv (.string y215) rfl) (MT.e ?_))
                  obtain rfl := Option.some.inj h153
                  exact ⟨_, C, ⟨rfl, rfl, rfl, rfl, trivial⟩, h0⟩
              · rintro ρ w218 ⟨S217, C, h219, h0⟩
                refine h219.cw fun ρ => ?_
                clear h219
                refine cw_region (sv (mvv (.int .i64 x133) rfl) ?_)
                obtain ⟨y220, h221, h135⟩ := pur_some h135
                refine sv (rv_add rfl rfl h221) (sv (asv (.int .i64 y220) rfl) (W.e ?_))
                obtain rfl := Option.some.inj h135
                exact ⟨_, rfl, ⟨_, C, ⟨rfl, rfl, rfl, rfl, trivial⟩, h0⟩⟩
            · refine cw_f rfl b149 (cw_exit ?_)
              obtain rfl := Option.some.inj h135
              have h222 := congrArg some h134
              obtain rfl := Option.some.inj h222
              exact ⟨_, C, ⟨rfl, rfl, rfl, trivial⟩, h0⟩
          · rintro ρ w224 ⟨S223, C, h225, h0⟩
            refine h225.cw fun ρ => ?_
            clear h225
            refine cw_region (sv (mvv (.string o122) rfl) ?_)
            obtain ⟨y226, h227, h27⟩ := bnd_some h27
            refine sv (rv_sadd' rfl rfl h227) (sv (asv (.string y226) rfl) (W.e ?_))
            obtain rfl := Option.some.inj h27
            exact ⟨_, C, ⟨rfl, rfl, rfl, trivial⟩, h0⟩
      · rintro ρ w229 ⟨S228, C, h230, h0⟩
        refine h230.cw fun ρ => ?_
        clear h230
        refine cw_region (sv (mvv (.int .i64 x16) rfl) ?_)
        obtain ⟨y231, h232, h18⟩ := pur_some h18
        refine sv (rv_add rfl rfl h232) (sv (asv (.int .i64 y231) rfl) (W.e ?_))
        obtain rfl := Option.some.inj h18
        exact ⟨_, rfl, ⟨_, C, ⟨rfl, rfl, rfl, trivial⟩, h0⟩⟩
    · refine cw_f rfl b23 (cw_exit ?_)
      obtain rfl := Option.some.inj h18
      have h233 := congrArg some h17
      obtain rfl := Option.some.inj h233
      exact ⟨_, C, ⟨rfl, trivial⟩⟩
  · rintro ρ w235 ⟨S234, C, h236⟩
    refine h236.cw fun ρ => ?_
    clear h236
    refine cw_seq fun K237 k238 => ?_
    refine cw_region (sv (mvv (.string o5) rfl) (sv (asv (.string o5) rfl) (W.e (k238 _ _ (cw_ret ?_)))))
    obtain rfl := Option.some.inj h
    exact ⟨_, rfl, _, rfl, C⟩

noncomputable def marigraphlaw16_QueryText.b2 (a0 : List api_Row) (x17 : List api_Row) (x18 : Int) : Option (((List api_Row) × Int) ⊕ ((List api_Row))) :=
  (bif (decide (x18 < (a0.length : Int))) then (((at_ a0 x18).bind fun y32 => (pur y32 fun y47 => ((bif (decide (x18 < (50 : Int))) then (bif (decide ((y47.Labels.length : Int) ≤ (12 : Int))) then some (decide ((y47.Points.length : Int) ≤ (100 : Int))) else some false) else some false).bind fun o53 => (bif o53 then ((app_ 48 x17 ([y47] : List api_Row)).bind fun y91 => some y91) else some x17)))).bind fun o26 => (pur (IntKind.i64.wrap (x18 + (1 : Int))) fun y104 => some (.inl (o26, y104)))) else some (.inr x17))
noncomputable def marigraphlaw16_QueryText (a0 : List api_Row) : Option Bool :=
  ((iter (fun s : (List api_Row) × Int => marigraphlaw16_QueryText.b2 a0 s.1 s.2) (([] : List api_Row), (0 : Int))).bind fun o5 => (((marigraphlaw16_shown).bind fun y116 => (bif y116 then ((query_Text o5).bind fun y122 => ((marigraphref16_Text o5).bind fun y127 => some (strEq y122 y127))) else some false)).bind fun o112 => some o112))
set_option maxRecDepth 100000 in
set_option maxHeartbeats 4000000 in
theorem marigraphlaw16_QueryText_w {S : Nat → Prop} {w : World} {a0 : List api_Row} {v0 : Value} {r : Bool} (hS : Sb S w) (hT : Tb Tryd.prog "internal/strconv.uint64pow10" .u64 Lib.pow10Tab S w) (h0 : Sl (kSl api_Row.k) S w v0 a0) (h : marigraphlaw16_QueryText a0 = some r) :
    Calls Tryd.prog 3 (List.toArray [v0]) w fun e w1 => ∃ S1, e = .returned (.bool r) ∧ Cx No S w S1 w1 := by
  refine enter Tryd.func3 rfl (by kernel_rfl) rfl ?_
  have C := Cx.refl (F := No) hS
  unfold marigraphlaw16_QueryText at h
  refine cw_seq fun K1 k2 => ?_
  refine cw_region (sv (asv (.bool false) rfl) (W.e (k2 _ _ ?_)))
  refine cw_seq fun K3 k4 => ?_
  refine cw_region (sv (asv (.slice none 0 0) rfl) (W.e (k4 _ _ ?_)))
  obtain ⟨o5, h8, h⟩ := bnd_some h
  refine cw_seq' (fun ρ w1 => ∃ S1 v109, Cx No S w S1 w1 ∧ Has ρ [(3, v109)] ∧ Tb Tryd.prog "internal/strconv.uint64pow10" .u64 Lib.pow10Tab S1 w1 ∧ Ow api_Row.k 26 S1 w.heap.size w1 v109 o5) ?_ ?_
  · refine cw_seq fun K9 k10 => ?_
    refine cw_region (sv (mvv v0 rfl) (sv (rv_lenS el22 h0 rfl) (sv (mvv (.int .i64 0) rfl) (W.e (k10 _ _ (cw_block ?_))))))
    refine cw_iter h8 (fun s ρ w1 => ∃ S1 v14, Cx No S w S1 w1 ∧ Has ρ [(3, v14), (6, v0), (7, .int .i64 (a0.length : Int)), (8, .int .i64 s.2)] ∧ Tb Tryd.prog "internal/strconv.uint64pow10" .u64 Lib.pow10Tab S1 w1 ∧ Ow api_Row.k 26 S1 w.heap.size w1 v14 s.1 ∧ Sl (kSl api_Row.k) S1 w1 v0 a0) ⟨_, _, C, ⟨rfl, rfl, rfl, rfl, trivial⟩, hT, Ow.nil _ _ _ _ _, h0⟩ ?_
    rintro ⟨x17, x18⟩ q11 ρ w13 ⟨S12, v14, C, h16, hT, h15, h0⟩ h20 h19
    refine h16.cw fun ρ => ?_
    clear h16
    replace h20 : marigraphlaw16_QueryText.b2 a0 x17 x18 = some q11 := h20
    unfold marigraphlaw16_QueryText.b2 at h20
    refine cw_seq fun K21 k22 => ?_
    refine cw_region (sv (rv_lss rfl rfl) (W.e (k22 _ _ ?_)))
    refine cw_seq fun K23 k24 => ?_
    rcases bif_some h20 with ⟨b25, h20⟩ | ⟨b25, h20⟩
    · refine cw_t rfl b25 (cw_skip (k24 _ _ ?_))
      obtain ⟨o26, h29, h20⟩ := bnd_some h20
      refine cw_seq' (fun ρ w1 => ∃ S1 v101, Cx No S w S1 w1 ∧ Has ρ [(3, v101), (6, v0), (7, .int .i64 (a0.length : Int)), (8, .int .i64 x18)] ∧ Tb Tryd.prog "internal/strconv.uint64pow10" .u64 Lib.pow10Tab S1 w1 ∧ Ow api_Row.k 26 S1 w.heap.size w1 v101 o26 ∧ Sl (kSl api_Row.k) S1 w1 v0 a0) ?_ ?_
      · refine cw_block ?_
        refine cw_seq fun K30 k31 => ?_
        refine cw_region (sv (mvv (.int .i64 x18) rfl) ?_)
        obtain ⟨y32, h33, h29⟩ := bnd_some h29
        refine sv (rv_index el22 h0 rfl rfl h33) ?_
        obtain ⟨v34, h35, h36⟩ := rw_loadA (P := Tryd.prog) el22 h0 h33
        obtain ⟨c37, c39, rfl, g38, g40⟩ := api_Row.o.1 h35
        refine sr (h36 _ (Sm.refl _ _) rfl) ?_
        refine sc (dc_allocO (x0 := (api_Row.mk ([] : List api_Label) ([] : List api_Point))) (base := w.heap.size) el22 zr26 (fun _ => api_Row.r.2 ⟨_, _, rfl, sl_nil _ _ _, sl_nil _ _ _⟩) C.up.size C.sb fun b41 w42 h43 h44 u45 => ?_)
        have p46 := ap_fresh h44 (fun b hb => (h15.lt b hb).2)
        replace h15 := h15.nw u45
        replace h0 := h0.nw u45
        replace g38 := g38.nw u45
        replace g40 := g40.nw u45
        replace hT := hT.nw u45
        replace C := C.new u45
        refine sv (asv (.int .i64 x18) rfl) ?_
        obtain ⟨y47, h48, h29⟩ := pur_some h29
        have h52 := h43
        refine sc (dc_storeO el22 h52 (show at_ [(api_Row.mk ([] : List api_Label) ([] : List api_Point))] (0 : Int) = some (api_Row.mk ([] : List api_Label) ([] : List api_Point)) from rfl) rfl rfl ((api_Row.o.2 ⟨_, _, rfl, g38, g40⟩)) fun w49 h50 u51 => ?_)
        replace h50 : Ow api_Row.k 26 S12 w.heap.size w49 (.slice (some ⟨b41, 0, none⟩) 1 1) [y32] := h50
        rw [h48] at h50
        replace h15 := h15.wr u51 h52.not (ap_symm p46)
        replace h0 := h0.wr u51 h52.not
        replace hT := hT.wr u51 h52.not
        replace C := C.ow h52 u51
        refine W.e (k31 _ _ ?_)
        obtain ⟨o53, h56, h29⟩ := bnd_some h29
        refine cw_seq' (fun ρ w1 => ∃ S1, Cx No S w S1 w1 ∧ Has ρ [(3, v14), (5, .pointer (some ⟨b41, 0, none⟩)), (6, v0), (7, .int .i64 (a0.length : Int)), (8, .int .i64 x18), (26, .bool o53)] ∧ Tb Tryd.prog "internal/strconv.uint64pow10" .u64 Lib.pow10Tab S1 w1 ∧ Ow api_Row.k 26 S1 w.heap.size w1 v14 x17 ∧ Ow api_Row.k 26 S1 w.heap.size w1 (.slice (some ⟨b41, 0, none⟩) 1 1) ([y47]) ∧ Sl (kSl api_Row.k) S1 w1 v0 a0 ∧ Ap v14 (.slice (some ⟨b41, 0, none⟩) 1 1)) ?_ ?_
        · refine cw_region (sv (mvv (.int .i64 x18) rfl) (sv (rv_lss rfl rfl) (sv (mvv (.bool (decide (x18 < (50 : Int)))) rfl) ?_)))
          rcases bif_some h56 with ⟨b57, h56⟩ | ⟨b57, h56⟩
          · refine W.v (gy rfl rfl rfl b57) (rv_fieldAddr st26 rfl rfl) ?_
            obtain ⟨cs58, h59, h60⟩ := Ow.cellsO h50 (show at_ [y47] (0 : Int) = some y47 from rfl)
            obtain ⟨c61, c63, rfl, g62, g64⟩ := api_Row.r.1 h59
            refine W.r (gy rfl rfl rfl b57) (rw_el1 (off := 0) ag23 (h60 _ (Sm.refl _ _)) rfl rfl) (W.v (gy rfl rfl rfl b57) (rv_lenS el23 g62 rfl) (W.v (gy rfl rfl rfl b57) (rv_leq rfl rfl) (sv (ptk (.bool (decide ((y47.Labels.length : Int) ≤ (12 : Int)))) rfl b57 rfl) (sv (mvv (.bool (decide ((y47.Labels.length : Int) ≤ (12 : Int)))) rfl) ?_))))
            rcases bif_some h56 with ⟨b65, h56⟩ | ⟨b65, h56⟩
            · refine W.v (gy rfl rfl rfl b65) (rv_fieldAddr st26 rfl rfl) ?_
              obtain ⟨cs66, h67, h68⟩ := Ow.cellsO h50 (show at_ [y47] (0 : Int) = some y47 from rfl)
              obtain ⟨c69, c71, rfl, g70, g72⟩ := api_Row.r.1 h67
              refine W.r (gy rfl rfl rfl b65) (rw_el1 (off := 1) ag24 (h68 _ (Sm.refl _ _)) rfl rfl) (W.v (gy rfl rfl rfl b65) (rv_lenS el24 g72 rfl) (W.v (gy rfl rfl rfl b65) (rv_leq rfl rfl) (sv (ptk (.bool (decide ((y47.Points.length : Int) ≤ (100 : Int)))) rfl b65 rfl) (W.e ?_))))
              obtain rfl := Option.some.inj h56
              exact ⟨_, C, ⟨rfl, rfl, rfl, rfl, rfl, rfl, trivial⟩, hT, h15, h50, h0, (ap_symm p46)⟩
            · refine W.n (gn rfl rfl rfl b65) (W.n (gn rfl rfl rfl b65) (W.n (gn rfl rfl rfl b65) (W.n (gn rfl rfl rfl b65) (sv (pfk (.bool false) rfl b65 rfl) (W.e ?_)))))
              obtain rfl := Option.some.inj h56
              exact ⟨_, C, ⟨rfl, rfl, rfl, rfl, rfl, rfl, trivial⟩, hT, h15, h50, h0, (ap_symm p46)⟩
          · refine W.n (gn rfl rfl rfl b57) (W.n (gn rfl rfl rfl b57) (W.n (gn rfl rfl rfl b57) (W.n (gn rfl rfl rfl b57) (sv (pfk (.bool false) rfl b57 rfl) (sv (mvv (.bool false) rfl) (W.n (gn rfl rfl rfl rfl) (W.n (gn rfl rfl rfl rfl) (W.n (gn rfl rfl rfl rfl) (W.n (gn rfl rfl rfl rfl) (sv (pfk (.bool false) rfl rfl rfl) (W.e ?_)))))))))))
            obtain rfl := Option.some.inj h56
            exact ⟨_, C, ⟨rfl, rfl, rfl, rfl, rfl, rfl, trivial⟩, hT, h15, h50, h0, (ap_symm p46)⟩
        · rintro ρ w74 ⟨S73, C, h76, hT, h15, h50, h0, p75⟩
          refine h76.cw fun ρ => ?_
          clear h76
          rcases bif_some h29 with ⟨b77, h29⟩ | ⟨b77, h29⟩
          · refine cw_t rfl b77 (cw_region (sv (mvv v14 rfl) ?_))
            obtain ⟨v78, h79, h80⟩ := rw_loadO (P := Tryd.prog) el22 h50 (show at_ [y47] (0 : Int) = some y47 from rfl)
            obtain ⟨c81, c83, rfl, g82, g84⟩ := api_Row.o.1 h79
            refine sr (h80 _ (Sm.refl _ _) rfl) ?_
            refine sc (dc_lit (vs := [.agg (List.toArray [c81, c83])]) (xs := ([y47] : List api_Row)) (base := w.heap.size) el22 rfl rfl (.cons (api_Row.o.2 ⟨_, _, rfl, g82, g84⟩) (.nil)) (Nat.le_of_ble_eq_true rfl) C.up.size C.sb fun v85 w86 h87 h88 u89 => ?_)
            have p90 := ap_fresh h88 (fun b hb => (h15.lt b hb).2)
            replace h0 := h0.nw u89
            replace h15 := h15.nw u89
            replace hT := hT.nw u89
            replace C := C.new u89
            obtain ⟨y91, h92, h29⟩ := bnd_some h29
            have h98 := h15
            refine sc (dc_append el22 (by decide) h98 h87.src rfl rfl h92 C.up.size C.sb fun v93 w94 h95 u96 h97 => ?_)
            replace h0 := h0.wr u96 h98.not
            replace hT := hT.wr u96 h98.not
            replace C := C.ow h98 u96
            refine sv (asv v93 rfl) (W.e ?_)
            obtain rfl := Option.some.inj h29
            exact ⟨_, _, C, ⟨rfl, rfl, rfl, rfl, trivial⟩, hT, h95, h0⟩
          · refine cw_f rfl b77 (cw_skip ?_)
            obtain rfl := Option.some.inj h29
            exact ⟨_, _, C, ⟨rfl, rfl, rfl, rfl, trivial⟩, hT, h15, h0⟩
      · rintro ρ w100 ⟨S99, v101, C, h103, hT, h102, h0⟩
        refine h103.cw fun ρ => ?_
        clear h103
        refine cw_region ?_
        obtain ⟨y104, h105, h20⟩ := pur_some h20
        refine sv (rv_add rfl rfl h105) (sv (mvv (.int .i64 y104) rfl) (W.e ?_))
        obtain rfl := Option.some.inj h20
        exact ⟨_, rfl, ⟨_, _, C, ⟨rfl, rfl, rfl, rfl, trivial⟩, hT, h102, h0⟩⟩
    · refine cw_f rfl b25 (cw_exit ?_)
      obtain rfl := Option.some.inj h20
      have h106 := congrArg some h19
      obtain rfl := Option.some.inj h106
      exact ⟨_, _, C, ⟨rfl, trivial⟩, hT, h15⟩
  · rintro ρ w108 ⟨S107, v109, C, h111, hT, h110⟩
    refine h111.cw fun ρ => ?_
    clear h111
    obtain ⟨o112, h115, h⟩ := bnd_some h
    refine cw_seq' (fun ρ w1 => ∃ S1, Cx No S w S1 w1 ∧ Has ρ [(2, .bool o112)] ∧ Tb Tryd.prog "internal/strconv.uint64pow10" .u64 Lib.pow10Tab S1 w1) ?_ ?_
    · refine cw_region ?_
      obtain ⟨y116, h117, h115⟩ := bnd_some h115
      refine sc (dc_call (vs := []) can4 rfl ?_)
      refine (marigraphlaw16_shown_w C.sb hT h117).mono ?_
      rintro _ w118 ⟨S119, rfl, c120⟩
      refine ⟨_, rfl, ?_⟩
      replace h110 := h110.cx c120
      replace hT := hT.cx c120
      replace C := C.trans c120
      refine sv (mvv (.bool y116) rfl) ?_
      rcases bif_some h115 with ⟨b121, h115⟩ | ⟨b121, h115⟩
      · refine W.v (gy rfl rfl rfl b121) (mvv v109 rfl) ?_
        replace hT := hT.or (T := Blk v109)
        replace C := C.sealO h110
        replace h110 := h110.sealed
        obtain ⟨y122, h123, h115⟩ := bnd_some h115
        refine W.c (gy rfl rfl rfl b121) (dc_call (vs := [v109]) can5 rfl ?_)
        refine (query_Text_w C.sb hT h110 h123).mono ?_
        rintro _ w124 ⟨S125, rfl, c126⟩
        refine ⟨_, rfl, ?_⟩
        replace h110 := h110.cx c126
        replace hT := hT.cx c126
        replace C := C.trans c126
        refine W.v (gy rfl rfl rfl b121) (mvv v109 rfl) ?_
        obtain ⟨y127, h128, h115⟩ := bnd_some h115
        refine W.c (gy rfl rfl rfl b121) (dc_call (vs := [v109]) can6 rfl ?_)
        refine (marigraphref16_Text_w C.sb h110 h128).mono ?_
        rintro _ w129 ⟨S130, rfl, c131⟩
        refine ⟨_, rfl, ?_⟩
        replace hT := hT.cx c131
        replace C := C.trans c131
        refine W.v (gy rfl rfl rfl b121) (rv_seql rfl rfl) (sv (ptk (.bool (strEq y122 y127)) rfl b121 rfl) (sv (asv (.bool (strEq y122 y127)) rfl) (W.e ?_)))
        obtain rfl := Option.some.inj h115
        exact ⟨_, C, ⟨rfl, trivial⟩, hT⟩
      · refine W.n (gn rfl rfl rfl b121) (W.n (gn rfl rfl rfl b121) (W.n (gn rfl rfl rfl b121) (W.n (gn rfl rfl rfl b121) (W.n (gn rfl rfl rfl b121) (sv (pfk (.bool false) rfl b121 rfl) (sv (asv (.bool false) rfl) (W.e ?_)))))))
        obtain rfl := Option.some.inj h115
        exact ⟨_, C, ⟨rfl, trivial⟩, hT⟩
    · rintro ρ w133 ⟨S132, C, h134, hT⟩
      refine h134.cw fun ρ => ?_
      clear h134
      refine cw_ret ?_
      obtain rfl := Option.some.inj h
      exact ⟨_, rfl, _, rfl, C⟩

end Go.Proofs.YtbkkobbjmhgkjaaDoor
