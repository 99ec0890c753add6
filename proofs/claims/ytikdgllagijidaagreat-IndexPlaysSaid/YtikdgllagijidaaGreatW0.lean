/- What each function computes, and that the program computes it (part 0). Printed by gen.py, a program of this session. -/
import Derived.Test.YtikdgllagijidaaGreatProg
import Derived.Test.YtikdgllagijidaaGreatMgS
import Derived.Test.YtikdgllagijidaaGreatMgV
import Derived.Test.YtikdgllagijidaaGreatMgO
import Derived.Test.YtikdgllagijidaaGreatMgM
import Derived.Test.YtikdgllagijidaaGreatMgI
import Derived.Test.YtikdgllagijidaaGreatMgAr
import Derived.Test.YtikdgllagijidaaGreatMgRg
import Derived.Test.YtikdgllagijidaaGreatMgSt
import Derived.Test.YtikdgllagijidaaGreatMgEn
import Derived.Test.YtikdgllagijidaaGreatMgDf
import Derived.Test.YtikdgllagijidaaGreatMgSi
import Derived.Test.YtikdgllagijidaaGreatMgSs
import Derived.Test.YtikdgllagijidaaGreatMgOp
import Derived.Test.YtikdgllagijidaaGreatShelf
set_option linter.unusedVariables false
namespace Go.Proofs.YtikdgllagijidaaGreat
open Go Go.Mg
structure api_Label where
  Name : ByteArray
  Val : ByteArray

def api_Label.k : Kd api_Label := kIso (kAgg (kPair kS kS)) fun x => (x.Name, x.Val)
theorem api_Label.r {S : Nat → Prop} {w : World} {cs : List Value} {x : api_Label} : api_Label.k.rep S w cs x ↔ cs = [.string x.Name, .string x.Val] := by
  constructor
  · rintro ⟨d0, e0, rfl, h0, h1⟩
    have h0 := rep_sc.1 h0; subst h0
    have h1 := rep_sc.1 h1; subst h1
    rfl
  · rintro rfl
    exact ⟨_, _, rfl, (rep_sc.2 rfl), (rep_sc.2 rfl)⟩
theorem api_Label.o {S : Nat → Prop} {w : World} {v : Value} {x : api_Label} : Sl api_Label.k S w v x ↔ v = .agg (List.toArray [.string x.Name, .string x.Val]) := by
  constructor
  · rintro ⟨cs, rfl, h⟩
    rw [api_Label.r.1 h]; rfl
  · rintro rfl
    exact ⟨_, rfl, api_Label.r.2 rfl⟩

structure api_Ask where
  Op : Int
  Name : ByteArray
  Val : ByteArray

def api_Ask.k : Kd api_Ask := kIso (kAgg (kPair (kI .u8) (kPair kS kS))) fun x => (x.Op, (x.Name, x.Val))
theorem api_Ask.r {S : Nat → Prop} {w : World} {cs : List Value} {x : api_Ask} : api_Ask.k.rep S w cs x ↔ cs = [.int .u8 x.Op, .string x.Name, .string x.Val] := by
  constructor
  · rintro ⟨d0, e0, rfl, h0, ⟨d1, e1, rfl, h1, h2⟩⟩
    have h0 := rep_sc.1 h0; subst h0
    have h1 := rep_sc.1 h1; subst h1
    have h2 := rep_sc.1 h2; subst h2
    rfl
  · rintro rfl
    exact ⟨_, _, rfl, (rep_sc.2 rfl), ⟨_, _, rfl, (rep_sc.2 rfl), (rep_sc.2 rfl)⟩⟩
theorem api_Ask.o {S : Nat → Prop} {w : World} {v : Value} {x : api_Ask} : Sl api_Ask.k S w v x ↔ v = .agg (List.toArray [.int .u8 x.Op, .string x.Name, .string x.Val]) := by
  constructor
  · rintro ⟨cs, rfl, h⟩
    rw [api_Ask.r.1 h]; rfl
  · rintro rfl
    exact ⟨_, rfl, api_Ask.r.2 rfl⟩

structure marigraphlaw08_Act where
  Kind : Int
  Id : Int
  L : List api_Label
  A : List api_Ask

def marigraphlaw08_Act.k : Kd marigraphlaw08_Act := kIso (kAgg (kPair (kI .u8) (kPair (kI .i64) (kPair (kSl api_Label.k) (kSl api_Ask.k))))) fun x => (x.Kind, (x.Id, (x.L, x.A)))
theorem marigraphlaw08_Act.r {S : Nat → Prop} {w : World} {cs : List Value} {x : marigraphlaw08_Act} : marigraphlaw08_Act.k.rep S w cs x ↔ ∃ c2 c3 : Value, cs = [.int .u8 x.Kind, .int .i64 x.Id, c2, c3] ∧ Sl (kSl api_Label.k) S w c2 x.L ∧ Sl (kSl api_Ask.k) S w c3 x.A := by
  constructor
  · rintro ⟨d0, e0, rfl, h0, ⟨d1, e1, rfl, h1, ⟨d2, e2, rfl, h2, h3⟩⟩⟩
    have h0 := rep_sc.1 h0; subst h0
    have h1 := rep_sc.1 h1; subst h1
    obtain ⟨_, q2, k2⟩ := rep_sl.1 h2; subst q2
    obtain ⟨_, q3, k3⟩ := rep_sl.1 h3; subst q3
    exact ⟨_, _, rfl, k2, k3⟩
  · rintro ⟨c2, c3, rfl, g0, g1⟩
    exact ⟨_, _, rfl, (rep_sc.2 rfl), ⟨_, _, rfl, (rep_sc.2 rfl), ⟨_, _, rfl, (rep_sl.2 ⟨_, rfl, g0⟩), (rep_sl.2 ⟨_, rfl, g1⟩)⟩⟩⟩
theorem marigraphlaw08_Act.o {S : Nat → Prop} {w : World} {v : Value} {x : marigraphlaw08_Act} : Sl marigraphlaw08_Act.k S w v x ↔ ∃ c2 c3 : Value, v = .agg (List.toArray [.int .u8 x.Kind, .int .i64 x.Id, c2, c3]) ∧ Sl (kSl api_Label.k) S w c2 x.L ∧ Sl (kSl api_Ask.k) S w c3 x.A := by
  constructor
  · rintro ⟨cs, rfl, h⟩
    obtain ⟨c2, c3, rfl, g0, g1⟩ := marigraphlaw08_Act.r.1 h
    exact ⟨c2, c3, rfl, g0, g1⟩
  · rintro ⟨c2, c3, rfl, g0, g1⟩
    exact ⟨_, rfl, marigraphlaw08_Act.r.2 ⟨c2, c3, rfl, g0, g1⟩⟩

structure marigraphref08_Series where
  Id : Int
  L : List api_Label

def marigraphref08_Series.k : Kd marigraphref08_Series := kIso (kAgg (kPair (kI .i64) (kSl api_Label.k))) fun x => (x.Id, x.L)
theorem marigraphref08_Series.r {S : Nat → Prop} {w : World} {cs : List Value} {x : marigraphref08_Series} : marigraphref08_Series.k.rep S w cs x ↔ ∃ c1 : Value, cs = [.int .i64 x.Id, c1] ∧ Sl (kSl api_Label.k) S w c1 x.L := by
  constructor
  · rintro ⟨d0, e0, rfl, h0, h1⟩
    have h0 := rep_sc.1 h0; subst h0
    obtain ⟨_, q1, k1⟩ := rep_sl.1 h1; subst q1
    exact ⟨_, rfl, k1⟩
  · rintro ⟨c1, rfl, g0⟩
    exact ⟨_, _, rfl, (rep_sc.2 rfl), (rep_sl.2 ⟨_, rfl, g0⟩)⟩
theorem marigraphref08_Series.o {S : Nat → Prop} {w : World} {v : Value} {x : marigraphref08_Series} : Sl marigraphref08_Series.k S w v x ↔ ∃ c1 : Value, v = .agg (List.toArray [.int .i64 x.Id, c1]) ∧ Sl (kSl api_Label.k) S w c1 x.L := by
  constructor
  · rintro ⟨cs, rfl, h⟩
    obtain ⟨c1, rfl, g0⟩ := marigraphref08_Series.r.1 h
    exact ⟨c1, rfl, g0⟩
  · rintro ⟨c1, rfl, g0⟩
    exact ⟨_, rfl, marigraphref08_Series.r.2 ⟨c1, rfl, g0⟩⟩

structure marigraphref08_Index where
  S : List marigraphref08_Series
  Given : Int

def marigraphref08_Index.k : Kd marigraphref08_Index := kIso (kAgg (kPair (kSl marigraphref08_Series.k) (kI .i64))) fun x => (x.S, x.Given)
theorem marigraphref08_Index.r {S : Nat → Prop} {w : World} {cs : List Value} {x : marigraphref08_Index} : marigraphref08_Index.k.rep S w cs x ↔ ∃ c0 : Value, cs = [c0, .int .i64 x.Given] ∧ Sl (kSl marigraphref08_Series.k) S w c0 x.S := by
  constructor
  · rintro ⟨d0, e0, rfl, h0, h1⟩
    obtain ⟨_, q0, k0⟩ := rep_sl.1 h0; subst q0
    have h1 := rep_sc.1 h1; subst h1
    exact ⟨_, rfl, k0⟩
  · rintro ⟨c0, rfl, g0⟩
    exact ⟨_, _, rfl, (rep_sl.2 ⟨_, rfl, g0⟩), (rep_sc.2 rfl)⟩
theorem marigraphref08_Index.o {S : Nat → Prop} {w : World} {v : Value} {x : marigraphref08_Index} : Sl marigraphref08_Index.k S w v x ↔ ∃ c0 : Value, v = .agg (List.toArray [c0, .int .i64 x.Given]) ∧ Sl (kSl marigraphref08_Series.k) S w c0 x.S := by
  constructor
  · rintro ⟨cs, rfl, h⟩
    obtain ⟨c0, rfl, g0⟩ := marigraphref08_Index.r.1 h
    exact ⟨c0, rfl, g0⟩
  · rintro ⟨c0, rfl, g0⟩
    exact ⟨_, rfl, marigraphref08_Index.r.2 ⟨c0, rfl, g0⟩⟩

set_option maxRecDepth 100000 in
theorem eqs46 (a0 : ByteArray) (a1 : ByteArray) (b0 : ByteArray) (b1 : ByteArray) : vEq Tryz.prog Op.maxDepth 46 (.agg (List.toArray [.string a0, .string a1])) (.agg (List.toArray [.string b0, .string b1])) = some ((a0 == b0) && ((a1 == b1) && true)) := by kernel_rfl
set_option maxRecDepth 100000 in
theorem zr61 : zeroOf Tryz.prog 61 = some [.map none, .map none, .map none, .map none, .int .i64 0] := by kernel_rfl
set_option maxRecDepth 100000 in
theorem st61 : stOf Tryz.prog 61 = some [(0, 1, false), (1, 1, false), (2, 1, false), (3, 1, false), (4, 1, false)] := by kernel_rfl
set_option maxRecDepth 100000 in
theorem can6 : CanE Tryz.prog 6 = true := by kernel_rfl
set_option maxRecDepth 100000 in
theorem st46 : stOf Tryz.prog 46 = some [(0, 1, false), (1, 1, false)] := by kernel_rfl
set_option maxRecDepth 100000 in
theorem zr46 : zeroOf Tryz.prog 46 = some [.string ByteArray.empty, .string ByteArray.empty] := by kernel_rfl
set_option maxRecDepth 100000 in
theorem el31 : El Tryz.prog api_Label.k 31 46 32 := { hi := ⟨_, _, rfl, rfl, rfl, rfl, rfl⟩, hs := by decide, ag := by kernel_rfl, ht := by kernel_rfl }
set_option maxRecDepth 100000 in
theorem can58 : CanE Tryz.prog 58 = true := by kernel_rfl
set_option maxRecDepth 100000 in
theorem can121 : CanE Tryz.prog 121 = true := by kernel_rfl
set_option maxRecDepth 100000 in
theorem can92 : CanE Tryz.prog 92 = true := by kernel_rfl
set_option maxRecDepth 100000 in
theorem ag9 : aggOf Tryz.prog 9 = some (false, 1) := by kernel_rfl
set_option maxRecDepth 100000 in
theorem fol : Tryz.prog.follows .mixedOrders = true := by kernel_rfl
set_option maxRecDepth 100000 in
theorem can91 : CanE Tryz.prog 91 = true := by kernel_rfl
set_option maxRecDepth 100000 in
theorem can137 : CanE Tryz.prog 137 = true := by kernel_rfl
set_option maxRecDepth 100000 in
theorem can143 : CanE Tryz.prog 143 = true := by kernel_rfl
set_option maxRecDepth 100000 in
theorem can142 : CanE Tryz.prog 142 = true := by kernel_rfl
set_option maxRecDepth 100000 in
theorem can138 : CanE Tryz.prog 138 = true := by kernel_rfl
set_option maxRecDepth 100000 in
theorem can120 : CanE Tryz.prog 120 = true := by kernel_rfl
set_option maxRecDepth 100000 in
theorem can90 : CanE Tryz.prog 90 = true := by kernel_rfl
set_option maxRecDepth 100000 in
theorem can88 : CanE Tryz.prog 88 = true := by kernel_rfl
set_option maxRecDepth 100000 in
theorem can119 : CanE Tryz.prog 119 = true := by kernel_rfl
set_option maxRecDepth 100000 in
theorem can141 : CanE Tryz.prog 141 = true := by kernel_rfl
set_option maxRecDepth 100000 in
theorem can136 : CanE Tryz.prog 136 = true := by kernel_rfl
set_option maxRecDepth 100000 in
theorem can118 : CanE Tryz.prog 118 = true := by kernel_rfl
set_option maxRecDepth 100000 in
theorem can87 : CanE Tryz.prog 87 = true := by kernel_rfl
set_option maxRecDepth 100000 in
theorem can89 : CanE Tryz.prog 89 = true := by kernel_rfl
set_option maxRecDepth 100000 in
theorem can62 : CanE Tryz.prog 62 = true := by kernel_rfl
set_option maxRecDepth 100000 in
theorem can70 : CanE Tryz.prog 70 = true := by kernel_rfl
set_option maxRecDepth 100000 in
theorem el36 : El Tryz.prog (kI .u8) 36 5 1 := { hi := ⟨_, _, rfl, rfl, rfl, rfl, rfl⟩, hs := by decide, ag := by kernel_rfl, ht := by kernel_rfl }
set_option maxRecDepth 100000 in
theorem can33 : CanE Tryz.prog 33 = true := by kernel_rfl
set_option maxRecDepth 100000 in
theorem zv5 : (Tryz.prog.info? 5).bind (·.zero) = some (.int .u8 0) := by kernel_rfl
set_option maxRecDepth 100000 in
theorem can63 : CanE Tryz.prog 63 = true := by kernel_rfl
set_option maxRecDepth 100000 in
theorem can35 : CanE Tryz.prog 35 = true := by kernel_rfl
set_option maxRecDepth 100000 in
theorem can43 : CanE Tryz.prog 43 = true := by kernel_rfl
set_option maxRecDepth 100000 in
theorem zv3 : (Tryz.prog.info? 3).bind (·.zero) = some (.int .i64 0) := by kernel_rfl
set_option maxRecDepth 100000 in
theorem ag3 : aggOf Tryz.prog 3 = some (false, 1) := by kernel_rfl
set_option maxRecDepth 100000 in
theorem ag56 : aggOf Tryz.prog 56 = some (false, 1) := by kernel_rfl
set_option maxRecDepth 100000 in
theorem zv31 : (Tryz.prog.info? 31).bind (·.zero) = some (.slice none 0 0) := by kernel_rfl
set_option maxRecDepth 100000 in
theorem zv49 : (Tryz.prog.info? 49).bind (·.zero) = some (.slice none 0 0) := by kernel_rfl
set_option maxRecDepth 100000 in
theorem el49 : El Tryz.prog (kI .i64) 49 3 8 := { hi := ⟨_, _, rfl, rfl, rfl, rfl, rfl⟩, hs := by decide, ag := by kernel_rfl, ht := by kernel_rfl }
set_option maxRecDepth 100000 in
theorem can122 : CanE Tryz.prog 122 = true := by kernel_rfl
set_option maxRecDepth 100000 in
theorem can123 : CanE Tryz.prog 123 = true := by kernel_rfl
set_option maxRecDepth 100000 in
theorem can95 : CanE Tryz.prog 95 = true := by kernel_rfl
set_option maxRecDepth 100000 in
theorem can93 : CanE Tryz.prog 93 = true := by kernel_rfl
set_option maxRecDepth 100000 in
theorem can71 : CanE Tryz.prog 71 = true := by kernel_rfl
set_option maxRecDepth 100000 in
theorem ag59 : aggOf Tryz.prog 59 = some (false, 1) := by kernel_rfl
set_option maxRecDepth 100000 in
theorem ag58 : aggOf Tryz.prog 58 = some (false, 1) := by kernel_rfl
set_option maxRecDepth 100000 in
theorem ag57 : aggOf Tryz.prog 57 = some (false, 1) := by kernel_rfl
set_option maxRecDepth 100000 in
theorem can44 : CanE Tryz.prog 44 = true := by kernel_rfl
set_option maxRecDepth 100000 in
theorem can14 : CanE Tryz.prog 14 = true := by kernel_rfl
set_option maxRecDepth 100000 in
theorem st53 : stOf Tryz.prog 53 = some [(0, 1, false), (1, 1, false), (2, 1, false)] := by kernel_rfl
set_option maxRecDepth 100000 in
theorem zr53 : zeroOf Tryz.prog 53 = some [.int .u8 0, .string ByteArray.empty, .string ByteArray.empty] := by kernel_rfl
set_option maxRecDepth 100000 in
theorem el32 : El Tryz.prog api_Ask.k 32 53 40 := { hi := ⟨_, _, rfl, rfl, rfl, rfl, rfl⟩, hs := by decide, ag := by kernel_rfl, ht := by kernel_rfl }
set_option maxRecDepth 100000 in
theorem can94 : CanE Tryz.prog 94 = true := by kernel_rfl
set_option maxRecDepth 100000 in
theorem ag5 : aggOf Tryz.prog 5 = some (false, 1) := by kernel_rfl
set_option maxRecDepth 100000 in
theorem can76 : CanE Tryz.prog 76 = true := by kernel_rfl
set_option maxRecDepth 100000 in
theorem ag53 : aggOf Tryz.prog 53 = some (true, 3) := by kernel_rfl
set_option maxRecDepth 100000 in
theorem can74 : CanE Tryz.prog 74 = true := by kernel_rfl
set_option maxRecDepth 100000 in
theorem can75 : CanE Tryz.prog 75 = true := by kernel_rfl
set_option maxRecDepth 100000 in
theorem can49 : CanE Tryz.prog 49 = true := by kernel_rfl
set_option maxRecDepth 100000 in
theorem can61 : CanE Tryz.prog 61 = true := by kernel_rfl
set_option maxRecDepth 100000 in
theorem can34 : CanE Tryz.prog 34 = true := by kernel_rfl
set_option maxRecDepth 100000 in
theorem el95 : El Tryz.prog (kSl (kI .i64)) 95 49 24 := { hi := ⟨_, _, rfl, rfl, rfl, rfl, rfl⟩, hs := by decide, ag := by kernel_rfl, ht := by kernel_rfl }
set_option maxRecDepth 100000 in
theorem ag24 : aggOf Tryz.prog 24 = some (false, 1) := by kernel_rfl
set_option maxRecDepth 100000 in
theorem can77 : CanE Tryz.prog 77 = true := by kernel_rfl
set_option maxRecDepth 100000 in
theorem can52 : CanE Tryz.prog 52 = true := by kernel_rfl
set_option maxRecDepth 100000 in
theorem can96 : CanE Tryz.prog 96 = true := by kernel_rfl
set_option maxRecDepth 100000 in
theorem zr3 : zeroOf Tryz.prog 3 = some [.int .i64 0] := by kernel_rfl
set_option maxRecDepth 100000 in
theorem can124 : CanE Tryz.prog 124 = true := by kernel_rfl
set_option maxRecDepth 100000 in
theorem can125 : CanE Tryz.prog 125 = true := by kernel_rfl
set_option maxRecDepth 100000 in
theorem can97 : CanE Tryz.prog 97 = true := by kernel_rfl
set_option maxRecDepth 100000 in
theorem can126 : CanE Tryz.prog 126 = true := by kernel_rfl
set_option maxRecDepth 100000 in
theorem can98 : CanE Tryz.prog 98 = true := by kernel_rfl
set_option maxRecDepth 100000 in
theorem can80 : CanE Tryz.prog 80 = true := by kernel_rfl
set_option maxRecDepth 100000 in
theorem can78 : CanE Tryz.prog 78 = true := by kernel_rfl
set_option maxRecDepth 100000 in
theorem can79 : CanE Tryz.prog 79 = true := by kernel_rfl
set_option maxRecDepth 100000 in
theorem can50 : CanE Tryz.prog 50 = true := by kernel_rfl
set_option maxRecDepth 100000 in
theorem can81 : CanE Tryz.prog 81 = true := by kernel_rfl
set_option maxRecDepth 100000 in
theorem can51 : CanE Tryz.prog 51 = true := by kernel_rfl
set_option maxRecDepth 100000 in
theorem can15 : CanE Tryz.prog 15 = true := by kernel_rfl
set_option maxRecDepth 100000 in
theorem can25 : CanE Tryz.prog 25 = true := by kernel_rfl
set_option maxRecDepth 100000 in
theorem can53 : CanE Tryz.prog 53 = true := by kernel_rfl
set_option maxRecDepth 100000 in
theorem can16 : CanE Tryz.prog 16 = true := by kernel_rfl
set_option maxRecDepth 100000 in
theorem can17 : CanE Tryz.prog 17 = true := by kernel_rfl
set_option maxRecDepth 100000 in
theorem can5 : CanE Tryz.prog 5 = true := by kernel_rfl
set_option maxRecDepth 100000 in
theorem st29 : stOf Tryz.prog 29 = some [(0, 1, false), (1, 1, false)] := by kernel_rfl
set_option maxRecDepth 100000 in
theorem zr29 : zeroOf Tryz.prog 29 = some [.slice none 0 0, .int .i64 0] := by kernel_rfl
set_option maxRecDepth 100000 in
theorem el22 : El Tryz.prog marigraphlaw08_Act.k 22 34 64 := { hi := ⟨_, _, rfl, rfl, rfl, rfl, rfl⟩, hs := by decide, ag := by kernel_rfl, ht := by kernel_rfl }
set_option maxRecDepth 100000 in
theorem can7 : CanE Tryz.prog 7 = true := by kernel_rfl
set_option maxRecDepth 100000 in
theorem zr34 : zeroOf Tryz.prog 34 = some [.int .u8 0, .int .i64 0, .slice none 0 0, .slice none 0 0] := by kernel_rfl
set_option maxRecDepth 100000 in
theorem st34 : stOf Tryz.prog 34 = some [(0, 1, false), (1, 1, false), (2, 1, false), (3, 1, false)] := by kernel_rfl
set_option maxRecDepth 100000 in
theorem st79 : stOf Tryz.prog 79 = some [(0, 1, false), (1, 1, false)] := by kernel_rfl
set_option maxRecDepth 100000 in
theorem el27 : El Tryz.prog marigraphref08_Series.k 27 79 32 := { hi := ⟨_, _, rfl, rfl, rfl, rfl, rfl⟩, hs := by decide, ag := by kernel_rfl, ht := by kernel_rfl }
set_option maxRecDepth 100000 in
theorem ag27 : aggOf Tryz.prog 27 = some (false, 1) := by kernel_rfl
set_option maxRecDepth 100000 in
theorem can54 : CanE Tryz.prog 54 = true := by kernel_rfl
set_option maxRecDepth 100000 in
theorem can18 : CanE Tryz.prog 18 = true := by kernel_rfl
set_option maxRecDepth 100000 in
theorem can19 : CanE Tryz.prog 19 = true := by kernel_rfl
set_option maxRecDepth 100000 in
theorem can82 : CanE Tryz.prog 82 = true := by kernel_rfl
set_option maxRecDepth 100000 in
theorem can55 : CanE Tryz.prog 55 = true := by kernel_rfl
set_option maxRecDepth 100000 in
theorem ag31 : aggOf Tryz.prog 31 = some (false, 1) := by kernel_rfl
set_option maxRecDepth 100000 in
theorem can60 : CanE Tryz.prog 60 = true := by kernel_rfl
set_option maxRecDepth 100000 in
theorem can83 : CanE Tryz.prog 83 = true := by kernel_rfl
set_option maxRecDepth 100000 in
theorem can56 : CanE Tryz.prog 56 = true := by kernel_rfl
set_option maxRecDepth 100000 in
theorem can20 : CanE Tryz.prog 20 = true := by kernel_rfl
set_option maxRecDepth 100000 in
theorem ag32 : aggOf Tryz.prog 32 = some (false, 1) := by kernel_rfl
set_option maxRecDepth 100000 in
theorem can21 : CanE Tryz.prog 21 = true := by kernel_rfl
set_option maxRecDepth 100000 in
theorem can64 : CanE Tryz.prog 64 = true := by kernel_rfl
set_option maxRecDepth 100000 in
theorem can57 : CanE Tryz.prog 57 = true := by kernel_rfl
set_option maxRecDepth 100000 in
theorem eqg46 : Tryz.prog.eqGuardType Tryz.prog.depth 46 = false := by kernel_rfl
set_option maxRecDepth 100000 in
theorem can32 : CanE Tryz.prog 32 = true := by kernel_rfl
set_option maxRecDepth 100000 in
theorem can47 : CanE Tryz.prog 47 = true := by kernel_rfl
set_option maxRecDepth 100000 in
theorem zr79 : zeroOf Tryz.prog 79 = some [.int .i64 0, .slice none 0 0] := by kernel_rfl
set_option maxRecDepth 100000 in
theorem can22 : CanE Tryz.prog 22 = true := by kernel_rfl
set_option maxRecDepth 100000 in
theorem can8 : CanE Tryz.prog 8 = true := by kernel_rfl
set_option maxRecDepth 100000 in
theorem can23 : CanE Tryz.prog 23 = true := by kernel_rfl
set_option maxRecDepth 100000 in
theorem can24 : CanE Tryz.prog 24 = true := by kernel_rfl
set_option maxRecDepth 100000 in
theorem can26 : CanE Tryz.prog 26 = true := by kernel_rfl
set_option maxRecDepth 100000 in
theorem el70 : El Tryz.prog kS 70 9 16 := { hi := ⟨_, _, rfl, rfl, rfl, rfl, rfl⟩, hs := by decide, ag := by kernel_rfl, ht := by kernel_rfl }
set_option maxRecDepth 100000 in
theorem ag46 : aggOf Tryz.prog 46 = some (true, 2) := by kernel_rfl
set_option maxRecDepth 100000 in
theorem can59 : CanE Tryz.prog 59 = true := by kernel_rfl
set_option maxRecDepth 100000 in
theorem can27 : CanE Tryz.prog 27 = true := by kernel_rfl
set_option maxRecDepth 100000 in
theorem can28 : CanE Tryz.prog 28 = true := by kernel_rfl
set_option maxRecDepth 100000 in
theorem can30 : CanE Tryz.prog 30 = true := by kernel_rfl
set_option maxRecDepth 100000 in
theorem can31 : CanE Tryz.prog 31 = true := by kernel_rfl
set_option maxRecDepth 100000 in
theorem can29 : CanE Tryz.prog 29 = true := by kernel_rfl
set_option maxRecDepth 100000 in
theorem can9 : CanE Tryz.prog 9 = true := by kernel_rfl
set_option maxRecDepth 100000 in
theorem can10 : CanE Tryz.prog 10 = true := by kernel_rfl
set_option maxRecDepth 100000 in
theorem can36 : CanE Tryz.prog 36 = true := by kernel_rfl
set_option maxRecDepth 100000 in
theorem can65 : CanE Tryz.prog 65 = true := by kernel_rfl
set_option maxRecDepth 100000 in
theorem can37 : CanE Tryz.prog 37 = true := by kernel_rfl
set_option maxRecDepth 100000 in
theorem can11 : CanE Tryz.prog 11 = true := by kernel_rfl
noncomputable instance api_Label_dec : DecidableEq api_Label := fun a b => Classical.propDecidable (a = b)
set_option maxRecDepth 100000 in
noncomputable def ky_api_Label : Ky Tryz.prog 46 api_Label := kyG Tryz.underlying46 (fun x => .agg (List.toArray [.string x.Name, .string x.Val])) (fun _ _ => rfl)
  (fun a b w => (run_vEq (eqs46 a.Name a.Val b.Name b.Val) w).trans (congrArg (fun q => Result.ok q w) (by rcases a with ⟨a0, a1⟩; rcases b with ⟨b0, b1⟩; apply Bool.eq_iff_iff.2; simp [ba_beq])))
  (fun _ _ _ => by kernel_rfl) (fun _ => same_agg rfl 9999)
structure index_Index where
  series : List (Int × List api_Label)
  ids : List (ByteArray × Int)
  posts : List (api_Label × List Int)
  names : List (ByteArray × List Int)
  given : Int
noncomputable def index_Index.fs (x : index_Index) : List ((α : Type) × Fk α × α) :=
  [⟨_, fMap (kyI Tryz.underlying3) (kSl api_Label.k), x.series⟩, ⟨_, fMap (kyS Tryz.underlying9) (kI .i64), x.ids⟩, ⟨_, fMap ky_api_Label (kSl (kI .i64)), x.posts⟩, ⟨_, fMap (kyS Tryz.underlying9) (kSl (kI .i64)), x.names⟩, ⟨_, fSl (kI .i64) rfl, x.given⟩]

noncomputable def marigraphref08_Index.fs (x : marigraphref08_Index) : List ((α : Type) × Fk α × α) :=
  [⟨_, fSl (kSl marigraphref08_Series.k) rfl, x.S⟩, ⟨_, fSl (kI .i64) rfl, x.Given⟩]

noncomputable def index_New  : Option (Option index_Index) :=
  some (some (index_Index.mk ([] : List (Int × List api_Label)) ([] : List (ByteArray × Int)) ([] : List (api_Label × List Int)) ([] : List (ByteArray × List Int)) (0 : Int)))
set_option maxRecDepth 100000 in
set_option maxHeartbeats 4000000 in
theorem index_New_w {S : Nat → Prop} {w : World}  {r : (Option index_Index)} (hS : Sb S w)  (h : index_New = some r) :
    Calls Tryz.prog 6 (List.toArray []) w fun e w1 => ∃ S1 u0 us0 up0, e = .returned (u0) ∧ Cx No S w S1 w1 ∧ Obo 61 index_Index.fs S1 w1 u0 r us0 up0 ∧ (∀ b, b ∈ up0 → w.heap.size ≤ b) := by
  refine enter Tryz.func6 rfl (by kernel_rfl) rfl ?_
  have C := Cx.refl (F := No) hS
  unfold index_New at h
  refine cw_seq fun K1 k2 => ?_
  refine cw_region (sv (asv (.pointer none) rfl) (W.e (k2 _ _ ?_)))
  refine cw_seq fun K3 k4 => ?_
  refine cw_region ?_
  refine sc (dc_mkmap (kyI Tryz.underlying3) (kSl api_Label.k) C.sb fun c5 b6 w7 h8 h9 u10 => ?_)
  have h11 : Mo (fMap (kyI Tryz.underlying3) (kSl api_Label.k)) S w7 c5 ([] : List (Int × List api_Label)) [b6] := ⟨h9, by simp⟩
  have h12p := C.up.size
  have h12q : ∀ q, q ∈ [b6] → w.heap.size ≤ q := fun q hq => by simp at hq; omega
  have h12 : ∀ q, q ∈ [b6] → w.heap.size ≤ q := fun q hq => Nat.le_trans C.up.size (h12q q hq)
  have h12r : b6 < w7.heap.size := (h11.lt b6 (by simp)).1
  replace C := C.new u10
  refine sc (dc_mkmap (kyS Tryz.underlying9) (kI .i64) C.sb fun c13 b14 w15 h16 h17 u18 => ?_)
  have h19 : Mo (fMap (kyS Tryz.underlying9) (kI .i64)) S w15 c13 ([] : List (ByteArray × Int)) [b14] := ⟨h17, by simp⟩
  have h20p := C.up.size
  have h20q : ∀ q, q ∈ [b14] → w7.heap.size ≤ q := fun q hq => by simp at hq; omega
  have h20 : ∀ q, q ∈ [b14] → w.heap.size ≤ q := fun q hq => Nat.le_trans C.up.size (h20q q hq)
  have h20r : b14 < w15.heap.size := (h19.lt b14 (by simp)).1
  have p21 := ap_fresh h20q (fun b hb => (h11.lt b hb).1)
  replace h11 := h11.nw u18
  replace C := C.new u18
  refine sc (dc_mkmap ky_api_Label (kSl (kI .i64)) C.sb fun c22 b23 w24 h25 h26 u27 => ?_)
  have h28 : Mo (fMap ky_api_Label (kSl (kI .i64))) S w24 c22 ([] : List (api_Label × List Int)) [b23] := ⟨h26, by simp⟩
  have h29p := C.up.size
  have h29q : ∀ q, q ∈ [b23] → w15.heap.size ≤ q := fun q hq => by simp at hq; omega
  have h29 : ∀ q, q ∈ [b23] → w.heap.size ≤ q := fun q hq => Nat.le_trans C.up.size (h29q q hq)
  have h29r : b23 < w24.heap.size := (h28.lt b23 (by simp)).1
  have p30 := ap_fresh h29q (fun b hb => (h11.lt b hb).1)
  have p31 := ap_fresh h29q (fun b hb => (h19.lt b hb).1)
  replace h11 := h11.nw u27
  replace h19 := h19.nw u27
  replace C := C.new u27
  refine sc (dc_mkmap (kyS Tryz.underlying9) (kSl (kI .i64)) C.sb fun c32 b33 w34 h35 h36 u37 => ?_)
  have h38 : Mo (fMap (kyS Tryz.underlying9) (kSl (kI .i64))) S w34 c32 ([] : List (ByteArray × List Int)) [b33] := ⟨h36, by simp⟩
  have h39p := C.up.size
  have h39q : ∀ q, q ∈ [b33] → w24.heap.size ≤ q := fun q hq => by simp at hq; omega
  have h39 : ∀ q, q ∈ [b33] → w.heap.size ≤ q := fun q hq => Nat.le_trans C.up.size (h39q q hq)
  have h39r : b33 < w34.heap.size := (h38.lt b33 (by simp)).1
  have p40 := ap_fresh h39q (fun b hb => (h11.lt b hb).1)
  have p41 := ap_fresh h39q (fun b hb => (h19.lt b hb).1)
  have p42 := ap_fresh h39q (fun b hb => (h28.lt b hb).1)
  replace h11 := h11.nw u37
  replace h19 := h19.nw u37
  replace h28 := h28.nw u37
  replace C := C.new u37
  have h43 := Mo.cells h11
  have h44 := Mo.cells h19
  have h45 := Mo.cells h28
  have h46 := Mo.cells h38
  refine sv (rv_build (r := [c5, c13, c22, c32, .int .i64 0]) st61 zr61 (by obtain ⟨_, rfl⟩ := h43; obtain ⟨_, rfl⟩ := h44; obtain ⟨_, rfl⟩ := h45; obtain ⟨_, rfl⟩ := h46; rfl)) ?_
  refine sc (dc_obox (l := index_Index.fs (index_Index.mk ([] : List (Int × List api_Label)) ([] : List (ByteArray × Int)) ([] : List (api_Label × List Int)) ([] : List (ByteArray × List Int)) (0 : Int))) (S := S) (cs := [c5, c13, c22, c32, .int .i64 0]) (.cons h11.1 (.cons h19.1 (.cons h28.1 (.cons h38.1 (.cons ⟨rep_sc.2 rfl, rfl⟩ (.nil)))))) (by simp; omega) C.sb rfl fun v47 w48 h49 h50 u51 => ?_)
  have h53p := C.up.size
  obtain ⟨fp52, h49, h53⟩ : ∃ fp, Ob 61 (index_Index.fs (index_Index.mk ([] : List (Int × List api_Label)) ([] : List (ByteArray × Int)) ([] : List (api_Label × List Int)) ([] : List (ByteArray × List Int)) (0 : Int))) S w48 v47 [c5, c13, c22, c32, .int .i64 0] fp ∧ ∀ q, q ∈ fp → w.heap.size ≤ q := ⟨_, h49, fun q hq => by simp at hq; omega⟩
  replace C := C.new u51
  refine sv (asv v47 rfl) (W.e (k4 _ _ (cw_ret ?_)))
  obtain rfl := Option.some.inj h
  exact ⟨_, rfl, _, _, _, _, rfl, C, h49, h53⟩

def slices_Clone_api_Label_api_Label (a0 : List api_Label) : Option (List api_Label) := clone_ 32 a0
set_option maxRecDepth 100000 in
theorem slices_Clone_api_Label_api_Label_w {S : Nat → Prop} {w : World} {a0 : List api_Label} {v0 : Value} {r : List api_Label} (hS : Sb S w) (h0 : Sl (kSl api_Label.k) S w v0 a0) (h : slices_Clone_api_Label_api_Label a0 = some r) :
    Calls Tryz.prog 58 (List.toArray [v0]) w fun e w1 => ∃ S1 u0, e = .returned u0 ∧ Cx No S w S1 w1 ∧ Ow api_Label.k 46 S1 w.heap.size w1 u0 r := by
  refine enter Tryz.func58 rfl (by kernel_rfl) rfl ?_
  have C := Cx.refl (F := No) hS
  unfold slices_Clone_api_Label_api_Label at h
  refine cw_seq fun K1 k1 => cw_region (sv rv_assign (W.e (k1 _ _ ?_)))
  obtain ⟨A, c, rfl, _, _, hA⟩ := sl_slice.1 h0
  refine cw_seq fun K2 k2 => cw_seq fun K3 k3 => cw_region (sv rv_move (sv (rv_slnil Tryz.underlying31 rfl rfl) (W.e (k3 _ _ ?_))))
  cases A with
  | none =>
    refine cw_t rfl rfl (cw_seq fun K4 k4 => cw_region (sv rv_assign (W.e (k4 _ _ (cw_ret ?_)))))
    have : a0 = [] := hA.elim (fun h => h) fun ⟨_, _, h, _⟩ => by cases h
    subst this
    obtain rfl := clone_nil h
    exact ⟨_, rfl, S, _, rfl, C, Ow.nil _ _ _ _ _⟩
  | some a =>
    refine cw_f rfl rfl (cw_skip (k2 _ _ ?_))
    refine cw_seq fun K5 k5 => cw_region ?_
    refine sc (dc_lit (vs := []) (xs := ([] : List api_Label)) (base := w.heap.size) el31 rfl rfl .nil (Nat.le_of_ble_eq_true rfl) C.up.size C.sb fun u w1 ho hb up => ?_)
    replace h0 := h0.nw up
    replace C := C.new up
    refine sv rv_move (sc (dc_append el31 (by decide) ho (h0.src fun _ h => h) rfl rfl (clone_app h) C.up.size C.sb fun u2 w2 ho2 up2 hb2 => ?_))
    replace C := C.ow ho up2
    exact sv rv_assign (W.e (k5 _ _ (cw_ret ⟨_, rfl, S, _, rfl, C, ho2⟩)))

noncomputable def cmp_isNaN_string (a0 : ByteArray) : Option Bool :=
  some (!strEq a0 a0)
set_option maxRecDepth 100000 in
set_option maxHeartbeats 4000000 in
theorem cmp_isNaN_string_w {S : Nat → Prop} {w : World} {a0 : ByteArray} {r : Bool} (hS : Sb S w)  (h : cmp_isNaN_string a0 = some r) :
    Calls Tryz.prog 121 (List.toArray [.string a0]) w fun e w1 => ∃ S1, e = .returned (.bool r) ∧ Cx No S w S1 w1 := by
  refine enter Tryz.func121 rfl (by kernel_rfl) rfl ?_
  have C := Cx.refl (F := No) hS
  unfold cmp_isNaN_string at h
  refine cw_seq fun K1 k2 => ?_
  refine cw_region (sv (asv (.bool false) rfl) (W.e (k2 _ _ ?_)))
  refine cw_seq fun K3 k4 => ?_
  refine cw_region (sv (mvv (.string a0) rfl) (sv (mvv (.string a0) rfl) (sv (rv_sneq rfl rfl) (sv (asv (.bool (!strEq a0 a0)) rfl) (W.e (k4 _ _ (cw_ret ?_)))))))
  obtain rfl := Option.some.inj h
  exact ⟨_, rfl, _, rfl, C⟩

noncomputable def cmp_Compare_string (a0 : ByteArray) (a1 : ByteArray) : Option Int :=
  ((cmp_isNaN_string a0).bind fun y5 => ((cmp_isNaN_string a1).bind fun y12 => (bif y5 then (bif y12 then some (0 : Int) else some (-1 : Int)) else (bif y12 then some (1 : Int) else (bif (strLt a0 a1) then some (-1 : Int) else (bif (!(strLt a0 a1 || strEq a0 a1)) then some (1 : Int) else some (0 : Int)))))))
set_option maxRecDepth 100000 in
set_option maxHeartbeats 4000000 in
theorem cmp_Compare_string_w {S : Nat → Prop} {w : World} {a0 : ByteArray} {a1 : ByteArray} {r : Int} (hS : Sb S w)  (h : cmp_Compare_string a0 a1 = some r) :
    Calls Tryz.prog 92 (List.toArray [.string a0, .string a1]) w fun e w1 => ∃ S1, e = .returned (.int .i64 r) ∧ Cx No S w S1 w1 := by
  refine enter Tryz.func92 rfl (by kernel_rfl) rfl ?_
  have C := Cx.refl (F := No) hS
  unfold cmp_Compare_string at h
  refine cw_seq fun K1 k2 => ?_
  refine cw_region (sv (asv (.int .i64 0) rfl) (W.e (k2 _ _ ?_)))
  refine cw_seq fun K3 k4 => ?_
  refine cw_region (sv (mvv (.string a0) rfl) ?_)
  obtain ⟨y5, h6, h⟩ := bnd_some h
  refine sc (dc_call (vs := [.string a0]) can121 rfl ?_)
  refine (cmp_isNaN_string_w C.sb  h6).mono ?_
  rintro _ w7 ⟨S8, rfl, c9⟩
  refine ⟨_, rfl, ?_⟩
  replace C := C.trans c9
  refine sv (asv (.bool y5) rfl) (W.e (k4 _ _ ?_))
  refine cw_seq fun K10 k11 => ?_
  refine cw_region (sv (mvv (.string a1) rfl) ?_)
  obtain ⟨y12, h13, h⟩ := bnd_some h
  refine sc (dc_call (vs := [.string a1]) can121 rfl ?_)
  refine (cmp_isNaN_string_w C.sb  h13).mono ?_
  rintro _ w14 ⟨S15, rfl, c16⟩
  refine ⟨_, rfl, ?_⟩
  replace C := C.trans c16
  refine sv (asv (.bool y12) rfl) (W.e (k11 _ _ ?_))
  refine cw_seq fun K17 k18 => ?_
  refine cw_seq fun K19 k20 => ?_
  refine cw_region (sv (mvv (.bool y5) rfl) (W.e (k20 _ _ ?_)))
  rcases bif_some h with ⟨b21, h⟩ | ⟨b21, h⟩
  · refine cw_t rfl b21 ?_
    refine cw_seq fun K22 k23 => ?_
    refine cw_seq fun K24 k25 => ?_
    refine cw_region (sv (mvv (.bool y12) rfl) (W.e (k25 _ _ ?_)))
    rcases bif_some h with ⟨b26, h⟩ | ⟨b26, h⟩
    · refine cw_t rfl b26 ?_
      refine cw_seq fun K27 k28 => ?_
      refine cw_region (sv (asv (.int .i64 0) rfl) (W.e (k28 _ _ (cw_ret ?_))))
      obtain rfl := Option.some.inj h
      exact ⟨_, rfl, _, rfl, C⟩
    · refine cw_f rfl b26 (cw_skip (k23 _ _ ?_))
      refine cw_seq fun K29 k30 => ?_
      refine cw_region (sv (asv (.int .i64 (-1)) rfl) (W.e (k30 _ _ (cw_ret ?_))))
      obtain rfl := Option.some.inj h
      exact ⟨_, rfl, _, rfl, C⟩
  · refine cw_f rfl b21 (cw_skip (k18 _ _ ?_))
    refine cw_seq fun K31 k32 => ?_
    refine cw_seq fun K33 k34 => ?_
    refine cw_region (sv (mvv (.bool y12) rfl) (W.e (k34 _ _ ?_)))
    rcases bif_some h with ⟨b35, h⟩ | ⟨b35, h⟩
    · refine cw_t rfl b35 ?_
      refine cw_seq fun K36 k37 => ?_
      refine cw_region (sv (asv (.int .i64 1) rfl) (W.e (k37 _ _ (cw_ret ?_))))
      obtain rfl := Option.some.inj h
      exact ⟨_, rfl, _, rfl, C⟩
    · refine cw_f rfl b35 (cw_skip (k32 _ _ ?_))
      refine cw_seq fun K38 k39 => ?_
      refine cw_seq fun K40 k41 => ?_
      refine cw_region (sv (mvv (.string a0) rfl) (sv (mvv (.string a1) rfl) (sv (rv_slss rfl rfl) (W.e (k41 _ _ ?_)))))
      rcases bif_some h with ⟨b42, h⟩ | ⟨b42, h⟩
      · refine cw_t rfl b42 ?_
        refine cw_seq fun K43 k44 => ?_
        refine cw_region (sv (asv (.int .i64 (-1)) rfl) (W.e (k44 _ _ (cw_ret ?_))))
        obtain rfl := Option.some.inj h
        exact ⟨_, rfl, _, rfl, C⟩
      · refine cw_f rfl b42 (cw_skip (k39 _ _ ?_))
        refine cw_seq fun K45 k46 => ?_
        refine cw_seq fun K47 k48 => ?_
        refine cw_region (sv (mvv (.string a0) rfl) (sv (mvv (.string a1) rfl) (sv (rv_sgtr rfl rfl) (W.e (k48 _ _ ?_)))))
        rcases bif_some h with ⟨b49, h⟩ | ⟨b49, h⟩
        · refine cw_t rfl b49 ?_
          refine cw_seq fun K50 k51 => ?_
          refine cw_region (sv (asv (.int .i64 1) rfl) (W.e (k51 _ _ (cw_ret ?_))))
          obtain rfl := Option.some.inj h
          exact ⟨_, rfl, _, rfl, C⟩
        · refine cw_f rfl b49 (cw_skip (k46 _ _ ?_))
          refine cw_seq fun K52 k53 => ?_
          refine cw_region (sv (asv (.int .i64 0) rfl) (W.e (k53 _ _ (cw_ret ?_))))
          obtain rfl := Option.some.inj h
          exact ⟨_, rfl, _, rfl, C⟩

noncomputable def label_Sort_1 (a0 : api_Label) (a1 : api_Label) : Option Int :=
  ((cmp_Compare_string a0.Name a1.Name).bind fun y17 => some y17)
set_option maxRecDepth 100000 in
set_option maxHeartbeats 4000000 in
theorem label_Sort_1_w {S : Nat → Prop} {w : World} {a0 : api_Label} {a1 : api_Label} {v0 v1 : Value} {r : Int} (hS : Sb S w) (h0 : Sl api_Label.k S w v0 a0) (h1 : Sl api_Label.k S w v1 a1) (h : label_Sort_1 a0 a1 = some r) :
    Calls Tryz.prog 91 (List.toArray [v0, v1]) w fun e w1 => ∃ S1, e = .returned (.int .i64 r) ∧ Cx No S w S1 w1 := by
  refine enter Tryz.func91 rfl (by kernel_rfl) rfl ?_
  have C := Cx.refl (F := No) hS
  unfold label_Sort_1 at h
  obtain rfl := api_Label.o.1 h0
  obtain rfl := api_Label.o.1 h1
  refine cw_seq fun K1 k2 => ?_
  refine cw_region ?_
  refine sc (dc_boxS C.sb rfl fun b3 S4 w5 c6 h7 => ?_)
  replace C := C.trans c6
  refine sc (dc_boxS C.sb rfl fun b9 S10 w11 c12 h13 => ?_)
  replace h7 := h7.cx c12
  replace C := C.trans c12
  refine sv (asv (.int .i64 0) rfl) (W.e (k2 _ _ ?_))
  refine cw_seq fun K15 k16 => ?_
  refine cw_region (sv (rv_fieldAddr st46 rfl rfl) (sr (rw_bk ag9 h7.2 rfl rfl) (sv (rv_fieldAddr st46 rfl rfl) (sr (rw_bk ag9 h13.2 rfl rfl) ?_))))
  obtain ⟨y17, h18, h⟩ := bnd_some h
  refine sc (dc_call (vs := [.string a0.Name, .string a1.Name]) can92 rfl ?_)
  refine (cmp_Compare_string_w C.sb  h18).mono ?_
  rintro _ w19 ⟨S20, rfl, c21⟩
  refine ⟨_, rfl, ?_⟩
  replace C := C.trans c21
  refine sv (asv (.int .i64 y17) rfl) (W.e (k16 _ _ (cw_ret ?_)))
  obtain rfl := Option.some.inj h
  exact ⟨_, rfl, _, rfl, C⟩

noncomputable def slices_insertionSortCmpFunc_api_Label__label_Sort_1.b3 (a1 : Int) (x32 : List api_Label) (x33 : Int) : Option (((List api_Label) × Int) ⊕ ((List api_Label))) :=
  (((bif (decide (a1 < x33)) then ((at_ x32 x33).bind fun y48 => (pur (IntKind.i64.wrap (x33 - (1 : Int))) fun y53 => ((at_ x32 y53).bind fun y55 => ((label_Sort_1 y48 y55).bind fun y60 => some (x32, (decide (y60 < (0 : Int)))))))) else some (x32, false)).bind fun o40 => (bif o40.2 then some (.inl o40.1) else some (.inr (.inr o40.1)))).bind (Sum.elim (fun o36n => (pur (IntKind.i64.wrap (x33 - (1 : Int))) fun y84 => (pur (IntKind.i64.wrap (x33 - (1 : Int))) fun y86 => ((at_ o36n y86).bind fun y88 => ((at_ o36n x33).bind fun y93 => ((at_ o36n x33).bind fun y98 => (pur (o36n.set (x33).toNat y88) fun y100 => ((at_ y100 y84).bind fun y107 => (pur (y100.set (y84).toNat y93) fun y109 => (pur (IntKind.i64.wrap (x33 - (1 : Int))) fun y116 => some (.inl (y109, y116)))))))))))) (fun q => some q)))
noncomputable def slices_insertionSortCmpFunc_api_Label__label_Sort_1.b1 (a1 : Int) (a2 : Int) (x11 : List api_Label) (x12 : Int) : Option (((List api_Label) × Int) ⊕ ((List api_Label))) :=
  (bif (decide (x12 < a2)) then ((iter (fun s : (List api_Label) × Int => slices_insertionSortCmpFunc_api_Label__label_Sort_1.b3 a1 s.1 s.2) (x11, x12)).bind fun o20 => (pur (IntKind.i64.wrap (x12 + (1 : Int))) fun y123 => some (.inl (o20, y123)))) else some (.inr x11))
noncomputable def slices_insertionSortCmpFunc_api_Label__label_Sort_1 (a0 : List api_Label) (a1 : Int) (a2 : Int) : Option (List api_Label) :=
  (pur (IntKind.i64.wrap (a1 + (1 : Int))) fun y3 => (iter (fun s : (List api_Label) × Int => slices_insertionSortCmpFunc_api_Label__label_Sort_1.b1 a1 a2 s.1 s.2) (a0, y3)))
set_option maxRecDepth 100000 in
set_option maxHeartbeats 4000000 in
theorem slices_insertionSortCmpFunc_api_Label__label_Sort_1_w {S : Nat → Prop} {w : World} {a0 : List api_Label} {a1 : Int} {a2 : Int} {v0 : Value} {base0 : Nat} {r : (List api_Label)} (hS : Sb S w) (h0 : Ow api_Label.k 46 S base0 w v0 a0) (h : slices_insertionSortCmpFunc_api_Label__label_Sort_1 a0 a1 a2 = some r) :
    Calls Tryz.prog 137 (List.toArray [v0, .int .i64 a1, .int .i64 a2, .func (.func 91) #[] #[]]) w fun e w1 => ∃ S1, e = .returned (.tuple (List.toArray [])) ∧ Cx (Blk v0) S w S1 w1 ∧ Ow api_Label.k 46 S1 base0 w1 v0 r := by
  refine enter Tryz.func137 rfl (by kernel_rfl) rfl ?_
  have C := Cx.refl (F := (Blk v0)) hS
  unfold slices_insertionSortCmpFunc_api_Label__label_Sort_1 at h
  refine cw_seq fun K1 k2 => ?_
  refine cw_region (sv (mvv (.int .i64 a1) rfl) ?_)
  obtain ⟨y3, h4, h⟩ := pur_some h
  refine sv (rv_add rfl rfl h4) (sv (asv (.int .i64 y3) rfl) (W.e (k2 _ _ (cw_block ?_))))
  refine cw_iter h (fun s ρ w1 => ∃ S1, Cx (Blk v0) S w S1 w1 ∧ Has ρ [(0, v0), (1, .int .i64 a1), (2, .int .i64 a2), (3, .func (.func 91) #[] #[]), (8, .int .i64 s.2)] ∧ Ow api_Label.k 46 S1 base0 w1 v0 s.1) ⟨_, C, ⟨rfl, rfl, rfl, rfl, rfl, trivial⟩, h0⟩ ?_
  rintro ⟨x11, x12⟩ q5 ρ w7 ⟨S6, C, h10, h9⟩ h14 h13
  refine h10.cw fun ρ => ?_
  clear h10
  replace h14 : slices_insertionSortCmpFunc_api_Label__label_Sort_1.b1 a1 a2 x11 x12 = some q5 := h14
  unfold slices_insertionSortCmpFunc_api_Label__label_Sort_1.b1 at h14
  refine cw_seq fun K15 k16 => ?_
  refine cw_seq fun K17 k18 => ?_
  refine cw_region (sv (mvv (.int .i64 x12) rfl) (sv (mvv (.int .i64 a2) rfl) (sv (rv_lss rfl rfl) (W.e (k18 _ _ ?_)))))
  rcases bif_some h14 with ⟨b19, h14⟩ | ⟨b19, h14⟩
  · refine cw_t rfl b19 (cw_skip (k16 _ _ ?_))
    obtain ⟨o20, h23, h14⟩ := bnd_some h14
    refine cw_seq' (fun ρ w1 => ∃ S1, Cx (Blk v0) S w S1 w1 ∧ Has ρ [(0, v0), (1, .int .i64 a1), (2, .int .i64 a2), (3, .func (.func 91) #[] #[]), (8, .int .i64 x12)] ∧ Ow api_Label.k 46 S1 base0 w1 v0 o20) ?_ ?_
    · refine cw_block ?_
      refine cw_seq fun K24 k25 => ?_
      refine cw_region (sv (mvv (.int .i64 x12) rfl) (sv (asv (.int .i64 x12) rfl) (W.e (k25 _ _ (cw_block ?_)))))
      refine cw_iter h23 (fun s ρ w1 => ∃ S1, Cx (Blk v0) S w S1 w1 ∧ Has ρ [(0, v0), (1, .int .i64 a1), (2, .int .i64 a2), (3, .func (.func 91) #[] #[]), (8, .int .i64 x12), (9, .int .i64 s.2)] ∧ Ow api_Label.k 46 S1 base0 w1 v0 s.1) ⟨_, C, ⟨rfl, rfl, rfl, rfl, rfl, rfl, trivial⟩, h9⟩ ?_
      rintro ⟨x32, x33⟩ q26 ρ w28 ⟨S27, C, h31, h30⟩ h35 h34
      refine h31.cw fun ρ => ?_
      clear h31
      replace h35 : slices_insertionSortCmpFunc_api_Label__label_Sort_1.b3 a1 x32 x33 = some q26 := h35
      unfold slices_insertionSortCmpFunc_api_Label__label_Sort_1.b3 at h35
      obtain ⟨o36, h39, h35⟩ := bnds_some h35
      refine cw_seq' (fun ρ w1 => ∃ o36n, o36 = (.inl o36n) ∧ ∃ S1, Cx (Blk v0) S w S1 w1 ∧ Has ρ [(0, v0), (1, .int .i64 a1), (2, .int .i64 a2), (3, .func (.func 91) #[] #[]), (8, .int .i64 x12), (9, .int .i64 x33)] ∧ Ow api_Label.k 46 S1 base0 w1 v0 o36n) ?_ ?_
      · obtain ⟨o40, h43, h39⟩ := bnd_some h39
        refine cw_seq' (fun ρ w1 => ∃ S1, Cx (Blk v0) S w S1 w1 ∧ Has ρ [(0, v0), (1, .int .i64 a1), (2, .int .i64 a2), (3, .func (.func 91) #[] #[]), (8, .int .i64 x12), (9, .int .i64 x33), (34, .bool o40.2)] ∧ Ow api_Label.k 46 S1 base0 w1 v0 o40.1) ?_ ?_
        · refine cw_drawU (.one 0 true (.one 1 true (.one 2 true (.one 3 true (.one 4 true (.one 5 true (.one 6 true (.one 7 true (.one 8 true (.one 9 true (.one 10 true (.one 11 true (.one 12 true (.one 13 true (.one 14 false (.one 15 true (.one 16 true .done))))))))))))))))) [(8, [9]), (13, [9])] [(14, [])] (fun c => bif Nat.beq c 9 then (fun _ => True) else No) fol (by kernel_rfl) fun w44 u45 => ?_
          replace h30 := h30.nw u45
          replace C := C.new u45
          have h30d := h30
          have m46 := Sm.refl (fun _ => True) w44
          refine mtv rfl rfl (mvv (.int .i64 x33) rfl) (mtv rfl rfl (mvv (.int .i64 a1) rfl) (mtv rfl rfl (rv_gtr rfl rfl) (mtv rfl rfl (mvv (.bool (decide (a1 < x33))) rfl) ?_)))
          rcases bif_some h43 with ⟨b47, h43⟩ | ⟨b47, h43⟩
          · refine MT.vv rfl rfl (gy rfl rfl rfl b47) (mvv (.func (.func 91) #[] #[]) rfl) (MT.vv rfl rfl (gy rfl rfl rfl b47) (mvv v0 rfl) (MT.vv rfl rfl (gy rfl rfl rfl b47) (mvv (.int .i64 x33) rfl) ?_))
            obtain ⟨y48, h49, h43⟩ := bnd_some h43
            refine MT.vv rfl rfl (gy rfl rfl rfl b47) (rv_index el31 h30.sealed rfl rfl h49) ?_
            obtain ⟨v50, h51, h52⟩ := rw_loadO (P := Tryz.prog) el31 h30 h49
            obtain rfl := api_Label.o.1 h51
            refine MT.r rfl rfl (gy rfl rfl rfl b47) ⟨m46, trivial⟩ (fun w' hq => h52 w' (hq.1.mono fun _ _ => trivial) rfl) (MT.vv rfl rfl (gy rfl rfl rfl b47) (mvv v0 rfl) (MT.vv rfl rfl (gy rfl rfl rfl b47) (mvv (.int .i64 x33) rfl) ?_))
            obtain ⟨y53, h54, h43⟩ := pur_some h43
            refine MT.vv rfl rfl (gy rfl rfl rfl b47) (rv_sub rfl rfl h54) ?_
            obtain ⟨y55, h56, h43⟩ := bnd_some h43
            refine MT.vv rfl rfl (gy rfl rfl rfl b47) (rv_index el31 h30.sealed rfl rfl h56) ?_
            obtain ⟨v57, h58, h59⟩ := rw_loadO (P := Tryz.prog) el31 h30 h56
            obtain rfl := api_Label.o.1 h58
            refine MT.r rfl rfl (gy rfl rfl rfl b47) ⟨m46, trivial⟩ (fun w' hq => h59 w' (hq.1.mono fun _ _ => trivial) rfl) ?_
            obtain ⟨y60, h61, h43⟩ := bnd_some h43
            refine MT.c rfl rfl (gy rfl rfl rfl b47) (dc_callV rfl (vs := [.agg (List.toArray [.string y48.Name, .string y48.Val]), .agg (List.toArray [.string y55.Name, .string y55.Val])]) can91 rfl ?_)
            refine (label_Sort_1_w C.sb ((api_Label.o (x := y48)).2 rfl) ((api_Label.o (x := y55)).2 rfl) h61).mono ?_
            rintro _ w62 ⟨S63, rfl, c64⟩
            refine ⟨_, rfl, ?_⟩
            replace h30 := h30.cx c64
            replace C := C.trans c64
            have z65 := (c64.up).size
            have m66 := m46.nx c64.up (by omega)
            refine ⟨trivial, ?_⟩
            refine MT.vv rfl rfl (gy rfl rfl rfl b47) (rv_lss rfl rfl) (mtv rfl rfl (ptk (.bool (decide (y60 < (0 : Int)))) rfl b47 rfl) (MT.e ?_))
            obtain rfl := Option.some.inj h43
            exact ⟨_, C, ⟨rfl, rfl, rfl, rfl, rfl, rfl, rfl, trivial⟩, h30⟩
          · refine MT.n rfl rfl (gn rfl rfl rfl b47) trivial (MT.n rfl rfl (gn rfl rfl rfl b47) trivial (MT.n rfl rfl (gn rfl rfl rfl b47) trivial (MT.n rfl rfl (gn rfl rfl rfl b47) trivial (MT.n rfl rfl (gn rfl rfl rfl b47) ⟨m46, trivial⟩ (MT.n rfl rfl (gn rfl rfl rfl b47) trivial (MT.n rfl rfl (gn rfl rfl rfl b47) trivial (MT.n rfl rfl (gn rfl rfl rfl b47) trivial (MT.n rfl rfl (gn rfl rfl rfl b47) trivial (MT.n rfl rfl (gn rfl rfl rfl b47) ⟨m46, trivial⟩ (MT.m rfl rfl (gn rfl rfl rfl b47) trivial (MT.n rfl rfl (gn rfl rfl rfl b47) trivial ?_)))))))))))
            refine mtv rfl rfl (pfk (.bool false) rfl b47 rfl) (MT.e ?_)
            obtain rfl := Option.some.inj h43
            exact ⟨_, C, ⟨rfl, rfl, rfl, rfl, rfl, rfl, rfl, trivial⟩, h30⟩
        · rintro ρ w68 ⟨S67, C, h71, h70⟩
          refine h71.cw fun ρ => ?_
          clear h71
          rcases bif_some h39 with ⟨b72, h39⟩ | ⟨b72, h39⟩
          · refine cw_t rfl b72 (cw_skip ?_)
            obtain rfl := Option.some.inj h39
            exact ⟨_, rfl, ⟨_, C, ⟨rfl, rfl, rfl, rfl, rfl, rfl, trivial⟩, h70⟩⟩
          · refine cw_f rfl b72 (cw_exit ?_)
            obtain rfl := Option.some.inj h39
            replace h35 := h35.2 _ rfl
            obtain rfl := Option.some.inj h35
            have h73 := congrArg some h34
            obtain rfl := Option.some.inj h73
            exact ⟨_, C, ⟨rfl, rfl, rfl, rfl, rfl, trivial⟩, h70⟩
      · rintro ρ w75 ⟨o36n, rfl, ⟨S74, C, h78, h77⟩⟩
        replace h35 := h35.1 _ rfl
        refine h78.cw fun ρ => ?_
        clear h78
        refine cw_seq fun K79 k80 => ?_
        refine cw_block ?_
        refine cw_drawU (.one 0 true (.one 1 true (.one 2 true (.one 3 true (.one 4 true (.one 5 true (.one 6 true (.one 7 true (.one 8 true (.one 9 true (.one 10 true (.one 11 true (.one 12 true (.one 13 true (.one 14 true (.one 15 false (.one 16 true (.one 17 false .done)))))))))))))))))) [(9, [1000]), (13, [1000])] [(15, []), (17, [])] (fun c => bif Nat.beq c 1000 then (Or S74 (Blk v0)) else No) fol (by kernel_rfl) fun w81 u82 => ?_
        replace h77 := h77.nw u82
        replace C := C.new u82
        have h77d := h77
        have m83 := Sm.refl (Or S74 (Blk v0)) w81
        refine mtv rfl rfl (mvv v0 rfl) (mtv rfl rfl (mvv (.int .i64 x33) rfl) (mtv rfl rfl (mvv v0 rfl) (mtv rfl rfl (mvv (.int .i64 x33) rfl) ?_)))
        obtain ⟨y84, h85, h35⟩ := pur_some h35
        refine mtv rfl rfl (rv_sub rfl rfl h85) (mtv rfl rfl (mvv v0 rfl) (mtv rfl rfl (mvv (.int .i64 x33) rfl) ?_))
        obtain ⟨y86, h87, h35⟩ := pur_some h35
        refine mtv rfl rfl (rv_sub rfl rfl h87) ?_
        obtain ⟨y88, h89, h35⟩ := bnd_some h35
        refine mtv rfl rfl (rv_index el31 h77.sealed rfl rfl h89) ?_
        obtain ⟨v90, h91, h92⟩ := rw_loadO (P := Tryz.prog) el31 h77 h89
        obtain rfl := api_Label.o.1 h91
        refine mtr rfl rfl ⟨m83, trivial⟩ (fun w' hq => h92 w' hq.1 rfl) (mtv rfl rfl (mvv v0 rfl) (mtv rfl rfl (mvv (.int .i64 x33) rfl) ?_))
        obtain ⟨y93, h94, h35⟩ := bnd_some h35
        refine mtv rfl rfl (rv_index el31 h77.sealed rfl rfl h94) ?_
        obtain ⟨v95, h96, h97⟩ := rw_loadO (P := Tryz.prog) el31 h77 h94
        obtain rfl := api_Label.o.1 h96
        refine mtr rfl rfl ⟨m83, trivial⟩ (fun w' hq => h97 w' hq.1 rfl) ?_
        obtain ⟨y98, h99, h35⟩ := bnd_some h35
        refine mtv rfl rfl (rv_index el31 h77.sealed rfl rfl h99) ?_
        obtain ⟨y100, h101, h35⟩ := pur_some h35
        have h105 := h77
        refine mtc rfl rfl (dc_storeO el31 h105 h99 rfl rfl (((api_Label.o (x := y88)).2 rfl)) fun w102 h103 u104 => ?_)
        rw [h101] at h103
        replace C := C.ofp u104 (fun b hb => .inl hb)
        have z106 := (u104).size
        refine ⟨trivial, ?_⟩
        obtain ⟨y107, h108, h35⟩ := bnd_some h35
        refine mtv rfl rfl (rv_index el31 h103.sealed rfl rfl h108) ?_
        obtain ⟨y109, h110, h35⟩ := pur_some h35
        have h114 := h103
        refine mtc rfl rfl (dc_storeO el31 h114 h108 rfl rfl (((api_Label.o (x := y93)).2 rfl)) fun w111 h112 u113 => ?_)
        rw [h110] at h112
        replace C := C.ofp u113 (fun b hb => .inl hb)
        have z115 := (u113).size
        refine ⟨trivial, ?_⟩
        refine MT.e (k80 _ _ (cw_region (sv (mvv (.int .i64 x33) rfl) ?_)))
        obtain ⟨y116, h117, h35⟩ := pur_some h35
        refine sv (rv_sub rfl rfl h117) (sv (asv (.int .i64 y116) rfl) (W.e ?_))
        obtain rfl := Option.some.inj h35
        exact ⟨_, rfl, ⟨_, C, ⟨rfl, rfl, rfl, rfl, rfl, rfl, trivial⟩, h112⟩⟩
    · rintro ρ w119 ⟨S118, C, h122, h121⟩
      refine h122.cw fun ρ => ?_
      clear h122
      refine cw_region (sv (mvv (.int .i64 x12) rfl) ?_)
      obtain ⟨y123, h124, h14⟩ := pur_some h14
      refine sv (rv_add rfl rfl h124) (sv (asv (.int .i64 y123) rfl) (W.e ?_))
      obtain rfl := Option.some.inj h14
      exact ⟨_, rfl, ⟨_, C, ⟨rfl, rfl, rfl, rfl, rfl, trivial⟩, h121⟩⟩
  · refine cw_f rfl b19 (cw_exit ?_)
    obtain rfl := Option.some.inj h14
    have h125 := congrArg some h13
    obtain rfl := Option.some.inj h125
    exact ⟨_, rfl, _, rfl, C, h9⟩

noncomputable def slices_swapRangeCmpFunc_api_Label__label_Sort_1.b1 (a1 : Int) (a2 : Int) (a3 : Int) (x9 : List api_Label) (x10 : Int) : Option (((List api_Label) × Int) ⊕ ((List api_Label))) :=
  (bif (decide (x10 < a3)) then (pur (IntKind.i64.wrap (a1 + x10)) fun y23 => (pur (IntKind.i64.wrap (a2 + x10)) fun y25 => (pur (IntKind.i64.wrap (a2 + x10)) fun y27 => ((at_ x9 y27).bind fun y29 => (pur (IntKind.i64.wrap (a1 + x10)) fun y34 => ((at_ x9 y34).bind fun y36 => ((at_ x9 y23).bind fun y41 => (pur (x9.set (y23).toNat y29) fun y43 => ((at_ y43 y25).bind fun y50 => (pur (y43.set (y25).toNat y36) fun y52 => (pur (IntKind.i64.wrap (x10 + (1 : Int))) fun y59 => some (.inl (y52, y59))))))))))))) else some (.inr x9))
noncomputable def slices_swapRangeCmpFunc_api_Label__label_Sort_1 (a0 : List api_Label) (a1 : Int) (a2 : Int) (a3 : Int) : Option (List api_Label) :=
  (iter (fun s : (List api_Label) × Int => slices_swapRangeCmpFunc_api_Label__label_Sort_1.b1 a1 a2 a3 s.1 s.2) (a0, (0 : Int)))
set_option maxRecDepth 100000 in
set_option maxHeartbeats 4000000 in
theorem slices_swapRangeCmpFunc_api_Label__label_Sort_1_w {S : Nat → Prop} {w : World} {a0 : List api_Label} {a1 : Int} {a2 : Int} {a3 : Int} {v0 : Value} {base0 : Nat} {r : (List api_Label)} (hS : Sb S w) (h0 : Ow api_Label.k 46 S base0 w v0 a0) (h : slices_swapRangeCmpFunc_api_Label__label_Sort_1 a0 a1 a2 a3 = some r) :
    Calls Tryz.prog 143 (List.toArray [v0, .int .i64 a1, .int .i64 a2, .int .i64 a3, .func (.func 91) #[] #[]]) w fun e w1 => ∃ S1, e = .returned (.tuple (List.toArray [])) ∧ Cx (Blk v0) S w S1 w1 ∧ Ow api_Label.k 46 S1 base0 w1 v0 r := by
  refine enter Tryz.func143 rfl (by kernel_rfl) rfl ?_
  have C := Cx.refl (F := (Blk v0)) hS
  unfold slices_swapRangeCmpFunc_api_Label__label_Sort_1 at h
  refine cw_seq fun K1 k2 => ?_
  refine cw_region (sv (asv (.int .i64 0) rfl) (W.e (k2 _ _ (cw_block ?_))))
  refine cw_iter h (fun s ρ w1 => ∃ S1, Cx (Blk v0) S w S1 w1 ∧ Has ρ [(0, v0), (1, .int .i64 a1), (2, .int .i64 a2), (3, .int .i64 a3), (10, .int .i64 s.2)] ∧ Ow api_Label.k 46 S1 base0 w1 v0 s.1) ⟨_, C, ⟨rfl, rfl, rfl, rfl, rfl, trivial⟩, h0⟩ ?_
  rintro ⟨x9, x10⟩ q3 ρ w5 ⟨S4, C, h8, h7⟩ h12 h11
  refine h8.cw fun ρ => ?_
  clear h8
  replace h12 : slices_swapRangeCmpFunc_api_Label__label_Sort_1.b1 a1 a2 a3 x9 x10 = some q3 := h12
  unfold slices_swapRangeCmpFunc_api_Label__label_Sort_1.b1 at h12
  refine cw_seq fun K13 k14 => ?_
  refine cw_seq fun K15 k16 => ?_
  refine cw_region (sv (mvv (.int .i64 x10) rfl) (sv (mvv (.int .i64 a3) rfl) (sv (rv_lss rfl rfl) (W.e (k16 _ _ ?_)))))
  rcases bif_some h12 with ⟨b17, h12⟩ | ⟨b17, h12⟩
  · refine cw_t rfl b17 (cw_skip (k14 _ _ ?_))
    refine cw_seq fun K18 k19 => ?_
    refine cw_block ?_
    refine cw_drawU (.one 0 true (.one 1 true (.one 2 true (.one 3 true (.one 4 true (.one 5 true (.one 6 true (.one 7 true (.one 8 true (.one 9 true (.one 10 true (.one 11 true (.one 12 true (.one 13 true (.one 14 true (.one 15 true (.one 16 true (.one 17 true (.one 18 true (.one 19 true (.one 20 true (.one 21 false (.one 22 true (.one 23 false .done)))))))))))))))))))))))) [(13, [1000]), (19, [1000])] [(21, []), (23, [])] (fun c => bif Nat.beq c 1000 then (Or S4 (Blk v0)) else No) fol (by kernel_rfl) fun w20 u21 => ?_
    replace h7 := h7.nw u21
    replace C := C.new u21
    have h7d := h7
    have m22 := Sm.refl (Or S4 (Blk v0)) w20
    refine mtv rfl rfl (mvv v0 rfl) (mtv rfl rfl (mvv (.int .i64 a1) rfl) (mtv rfl rfl (mvv (.int .i64 x10) rfl) ?_))
    obtain ⟨y23, h24, h12⟩ := pur_some h12
    refine mtv rfl rfl (rv_add rfl rfl h24) (mtv rfl rfl (mvv v0 rfl) (mtv rfl rfl (mvv (.int .i64 a2) rfl) (mtv rfl rfl (mvv (.int .i64 x10) rfl) ?_)))
    obtain ⟨y25, h26, h12⟩ := pur_some h12
    refine mtv rfl rfl (rv_add rfl rfl h26) (mtv rfl rfl (mvv v0 rfl) (mtv rfl rfl (mvv (.int .i64 a2) rfl) (mtv rfl rfl (mvv (.int .i64 x10) rfl) ?_)))
    obtain ⟨y27, h28, h12⟩ := pur_some h12
    refine mtv rfl rfl (rv_add rfl rfl h28) ?_
    obtain ⟨y29, h30, h12⟩ := bnd_some h12
    refine mtv rfl rfl (rv_index el31 h7.sealed rfl rfl h30) ?_
    obtain ⟨v31, h32, h33⟩ := rw_loadO (P := Tryz.prog) el31 h7 h30
    obtain rfl := api_Label.o.1 h32
    refine mtr rfl rfl ⟨m22, trivial⟩ (fun w' hq => h33 w' hq.1 rfl) (mtv rfl rfl (mvv v0 rfl) (mtv rfl rfl (mvv (.int .i64 a1) rfl) (mtv rfl rfl (mvv (.int .i64 x10) rfl) ?_)))
    obtain ⟨y34, h35, h12⟩ := pur_some h12
    refine mtv rfl rfl (rv_add rfl rfl h35) ?_
    obtain ⟨y36, h37, h12⟩ := bnd_some h12
    refine mtv rfl rfl (rv_index el31 h7.sealed rfl rfl h37) ?_
    obtain ⟨v38, h39, h40⟩ := rw_loadO (P := Tryz.prog) el31 h7 h37
    obtain rfl := api_Label.o.1 h39
    refine mtr rfl rfl ⟨m22, trivial⟩ (fun w' hq => h40 w' hq.1 rfl) ?_
    obtain ⟨y41, h42, h12⟩ := bnd_some h12
    refine mtv rfl rfl (rv_index el31 h7.sealed rfl rfl h42) ?_
    obtain ⟨y43, h44, h12⟩ := pur_some h12
    have h48 := h7
    refine mtc rfl rfl (dc_storeO el31 h48 h42 rfl rfl (((api_Label.o (x := y29)).2 rfl)) fun w45 h46 u47 => ?_)
    rw [h44] at h46
    replace C := C.ofp u47 (fun b hb => .inl hb)
    have z49 := (u47).size
    refine ⟨trivial, ?_⟩
    obtain ⟨y50, h51, h12⟩ := bnd_some h12
    refine mtv rfl rfl (rv_index el31 h46.sealed rfl rfl h51) ?_
    obtain ⟨y52, h53, h12⟩ := pur_some h12
    have h57 := h46
    refine mtc rfl rfl (dc_storeO el31 h57 h51 rfl rfl (((api_Label.o (x := y36)).2 rfl)) fun w54 h55 u56 => ?_)
    rw [h53] at h55
    replace C := C.ofp u56 (fun b hb => .inl hb)
    have z58 := (u56).size
    refine ⟨trivial, ?_⟩
    refine MT.e (k19 _ _ (cw_region (sv (mvv (.int .i64 x10) rfl) ?_)))
    obtain ⟨y59, h60, h12⟩ := pur_some h12
    refine sv (rv_add rfl rfl h60) (sv (asv (.int .i64 y59) rfl) (W.e ?_))
    obtain rfl := Option.some.inj h12
    exact ⟨_, rfl, ⟨_, C, ⟨rfl, rfl, rfl, rfl, rfl, trivial⟩, h55⟩⟩
  · refine cw_f rfl b17 (cw_exit ?_)
    obtain rfl := Option.some.inj h12
    have h61 := congrArg some h11
    obtain rfl := Option.some.inj h61
    exact ⟨_, rfl, _, rfl, C, h7⟩

noncomputable def slices_rotateCmpFunc_api_Label__label_Sort_1.b2 (a2 : Int) (x19 : List api_Label) (x20 : Int) (x21 : Int) : Option (((List api_Label) × Int × Int) ⊕ ((List api_Label) × Int)) :=
  (bif (x20 != x21) then (bif (decide (x21 < x20)) then (pur (IntKind.i64.wrap (a2 - x20)) fun y34 => ((slices_swapRangeCmpFunc_api_Label__label_Sort_1 x19 y34 a2 x21).bind fun y36 => (pur (IntKind.i64.wrap (x20 - x21)) fun y45 => some (.inl (y36, y45, x21))))) else (pur (IntKind.i64.wrap (a2 - x20)) fun y49 => (pur (IntKind.i64.wrap (a2 + x21)) fun y51 => (pur (IntKind.i64.wrap (y51 - x20)) fun y53 => ((slices_swapRangeCmpFunc_api_Label__label_Sort_1 x19 y49 y53 x20).bind fun y55 => (pur (IntKind.i64.wrap (x21 - x20)) fun y64 => some (.inl (y55, x20, y64)))))))) else some (.inr (x19, x20)))
noncomputable def slices_rotateCmpFunc_api_Label__label_Sort_1 (a0 : List api_Label) (a1 : Int) (a2 : Int) (a3 : Int) : Option (List api_Label) :=
  (pur (IntKind.i64.wrap (a2 - a1)) fun y3 => (pur (IntKind.i64.wrap (a3 - a2)) fun y7 => ((iter (fun s : (List api_Label) × Int × Int => slices_rotateCmpFunc_api_Label__label_Sort_1.b2 a2 s.1 s.2.1 s.2.2) (a0, y3, y7)).bind fun o9 => (pur (IntKind.i64.wrap (a2 - o9.2)) fun y72 => ((slices_swapRangeCmpFunc_api_Label__label_Sort_1 o9.1 y72 a2 o9.2).bind fun y74 => some y74)))))
set_option maxRecDepth 100000 in
set_option maxHeartbeats 4000000 in
theorem slices_rotateCmpFunc_api_Label__label_Sort_1_w {S : Nat → Prop} {w : World} {a0 : List api_Label} {a1 : Int} {a2 : Int} {a3 : Int} {v0 : Value} {base0 : Nat} {r : (List api_Label)} (hS : Sb S w) (h0 : Ow api_Label.k 46 S base0 w v0 a0) (h : slices_rotateCmpFunc_api_Label__label_Sort_1 a0 a1 a2 a3 = some r) :
    Calls Tryz.prog 142 (List.toArray [v0, .int .i64 a1, .int .i64 a2, .int .i64 a3, .func (.func 91) #[] #[]]) w fun e w1 => ∃ S1, e = .returned (.tuple (List.toArray [])) ∧ Cx (Blk v0) S w S1 w1 ∧ Ow api_Label.k 46 S1 base0 w1 v0 r := by
  refine enter Tryz.func142 rfl (by kernel_rfl) rfl ?_
  have C := Cx.refl (F := (Blk v0)) hS
  unfold slices_rotateCmpFunc_api_Label__label_Sort_1 at h
  refine cw_seq fun K1 k2 => ?_
  refine cw_region (sv (mvv (.int .i64 a2) rfl) (sv (mvv (.int .i64 a1) rfl) ?_))
  obtain ⟨y3, h4, h⟩ := pur_some h
  refine sv (rv_sub rfl rfl h4) (sv (asv (.int .i64 y3) rfl) (W.e (k2 _ _ ?_)))
  refine cw_seq fun K5 k6 => ?_
  refine cw_region (sv (mvv (.int .i64 a3) rfl) (sv (mvv (.int .i64 a2) rfl) ?_))
  obtain ⟨y7, h8, h⟩ := pur_some h
  refine sv (rv_sub rfl rfl h8) (sv (asv (.int .i64 y7) rfl) (W.e (k6 _ _ ?_)))
  obtain ⟨o9, h12, h⟩ := bnd_some h
  refine cw_seq' (fun ρ w1 => ∃ S1, Cx (Blk v0) S w S1 w1 ∧ Has ρ [(0, v0), (2, .int .i64 a2), (4, .func (.func 91) #[] #[]), (10, .int .i64 o9.2)] ∧ Ow api_Label.k 46 S1 base0 w1 v0 o9.1) ?_ ?_
  · refine cw_block ?_
    refine cw_iter h12 (fun s ρ w1 => ∃ S1, Cx (Blk v0) S w S1 w1 ∧ Has ρ [(0, v0), (2, .int .i64 a2), (4, .func (.func 91) #[] #[]), (10, .int .i64 s.2.1), (11, .int .i64 s.2.2)] ∧ Ow api_Label.k 46 S1 base0 w1 v0 s.1) ⟨_, C, ⟨rfl, rfl, rfl, rfl, rfl, trivial⟩, h0⟩ ?_
    rintro ⟨x19, x20, x21⟩ q13 ρ w15 ⟨S14, C, h18, h17⟩ h23 h22
    refine h18.cw fun ρ => ?_
    clear h18
    replace h23 : slices_rotateCmpFunc_api_Label__label_Sort_1.b2 a2 x19 x20 x21 = some q13 := h23
    unfold slices_rotateCmpFunc_api_Label__label_Sort_1.b2 at h23
    refine cw_seq fun K24 k25 => ?_
    refine cw_seq fun K26 k27 => ?_
    refine cw_region (sv (mvv (.int .i64 x20) rfl) (sv (mvv (.int .i64 x21) rfl) (sv (rv_neq rfl rfl) (W.e (k27 _ _ ?_)))))
    rcases bif_some h23 with ⟨b28, h23⟩ | ⟨b28, h23⟩
    · refine cw_t rfl b28 (cw_skip (k25 _ _ (cw_block ?_)))
      refine cw_seq fun K29 k30 => ?_
      refine cw_region (sv (mvv (.int .i64 x20) rfl) (sv (mvv (.int .i64 x21) rfl) (sv (rv_gtr rfl rfl) (W.e (k30 _ _ ?_)))))
      rcases bif_some h23 with ⟨b31, h23⟩ | ⟨b31, h23⟩
      · refine cw_t rfl b31 ?_
        refine cw_seq fun K32 k33 => ?_
        refine cw_region (sv (mvv v0 rfl) (sv (mvv (.int .i64 a2) rfl) (sv (mvv (.int .i64 x20) rfl) ?_)))
        obtain ⟨y34, h35, h23⟩ := pur_some h23
        refine sv (rv_sub rfl rfl h35) (sv (mvv (.int .i64 a2) rfl) (sv (mvv (.int .i64 x21) rfl) (sv (mvv (.func (.func 91) #[] #[]) rfl) ?_)))
        obtain ⟨y36, h37, h23⟩ := bnd_some h23
        refine sc (dc_call (vs := [v0, .int .i64 y34, .int .i64 a2, .int .i64 x21, .func (.func 91) #[] #[]]) can143 rfl ?_)
        refine (slices_swapRangeCmpFunc_api_Label__label_Sort_1_w C.sb h17 h37).mono ?_
        rintro _ w38 ⟨S43, rfl, c44, h40⟩
        refine ⟨_, rfl, ?_⟩
        replace C := C.ofc c44 (fun b hb => .inl hb)
        refine W.e (k33 _ _ (cw_region (sv (mvv (.int .i64 x20) rfl) (sv (mvv (.int .i64 x21) rfl) ?_))))
        obtain ⟨y45, h46, h23⟩ := pur_some h23
        refine sv (rv_sub rfl rfl h46) (sv (asv (.int .i64 y45) rfl) (W.e ?_))
        obtain rfl := Option.some.inj h23
        exact ⟨_, rfl, ⟨_, C, ⟨rfl, rfl, rfl, rfl, rfl, trivial⟩, h40⟩⟩
      · refine cw_f rfl b31 ?_
        refine cw_seq fun K47 k48 => ?_
        refine cw_region (sv (mvv v0 rfl) (sv (mvv (.int .i64 a2) rfl) (sv (mvv (.int .i64 x20) rfl) ?_)))
        obtain ⟨y49, h50, h23⟩ := pur_some h23
        refine sv (rv_sub rfl rfl h50) (sv (mvv (.int .i64 a2) rfl) (sv (mvv (.int .i64 x21) rfl) ?_))
        obtain ⟨y51, h52, h23⟩ := pur_some h23
        refine sv (rv_add rfl rfl h52) (sv (mvv (.int .i64 x20) rfl) ?_)
        obtain ⟨y53, h54, h23⟩ := pur_some h23
        refine sv (rv_sub rfl rfl h54) (sv (mvv (.int .i64 x20) rfl) (sv (mvv (.func (.func 91) #[] #[]) rfl) ?_))
        obtain ⟨y55, h56, h23⟩ := bnd_some h23
        refine sc (dc_call (vs := [v0, .int .i64 y49, .int .i64 y53, .int .i64 x20, .func (.func 91) #[] #[]]) can143 rfl ?_)
        refine (slices_swapRangeCmpFunc_api_Label__label_Sort_1_w C.sb h17 h56).mono ?_
        rintro _ w57 ⟨S62, rfl, c63, h59⟩
        refine ⟨_, rfl, ?_⟩
        replace C := C.ofc c63 (fun b hb => .inl hb)
        refine W.e (k48 _ _ (cw_region (sv (mvv (.int .i64 x21) rfl) (sv (mvv (.int .i64 x20) rfl) ?_))))
        obtain ⟨y64, h65, h23⟩ := pur_some h23
        refine sv (rv_sub rfl rfl h65) (sv (asv (.int .i64 y64) rfl) (W.e ?_))
        obtain rfl := Option.some.inj h23
        exact ⟨_, rfl, ⟨_, C, ⟨rfl, rfl, rfl, rfl, rfl, trivial⟩, h59⟩⟩
    · refine cw_f rfl b28 (cw_exit ?_)
      obtain rfl := Option.some.inj h23
      have h66 := congrArg some h22
      obtain rfl := Option.some.inj h66
      exact ⟨_, C, ⟨rfl, rfl, rfl, rfl, trivial⟩, h17⟩
  · rintro ρ w68 ⟨S67, C, h71, h70⟩
    refine h71.cw fun ρ => ?_
    clear h71
    refine cw_region (sv (mvv v0 rfl) (sv (mvv (.int .i64 a2) rfl) (sv (mvv (.int .i64 o9.2) rfl) ?_)))
    obtain ⟨y72, h73, h⟩ := pur_some h
    refine sv (rv_sub rfl rfl h73) (sv (mvv (.int .i64 a2) rfl) (sv (mvv (.int .i64 o9.2) rfl) (sv (mvv (.func (.func 91) #[] #[]) rfl) ?_)))
    obtain ⟨y74, h75, h⟩ := bnd_some h
    refine sc (dc_call (vs := [v0, .int .i64 y72, .int .i64 a2, .int .i64 o9.2, .func (.func 91) #[] #[]]) can143 rfl ?_)
    refine (slices_swapRangeCmpFunc_api_Label__label_Sort_1_w C.sb h70 h75).mono ?_
    rintro _ w76 ⟨S81, rfl, c82, h78⟩
    refine ⟨_, rfl, ?_⟩
    replace C := C.ofc c82 (fun b hb => .inl hb)
    refine W.e ?_
    obtain rfl := Option.some.inj h
    exact ⟨_, rfl, _, rfl, C, h78⟩

noncomputable def slices_symMergeCmpFunc_api_Label__label_Sort_1.b2 (a1 : Int) (x22 : List api_Label) (x23 : Int) (x24 : Int) : Option (((List api_Label) × Int × Int) ⊕ ((List api_Label) × Int)) :=
  (bif (decide (x23 < x24)) then (pur (IntKind.i64.wrap (x23 + x24)) fun y34 => (pur (IntKind.u64.wrap y34) fun y36 => (pur (ishr .u64 y36 (1 : Int)) fun y38 => (pur (IntKind.i64.wrap y38) fun y40 => ((at_ x22 y40).bind fun y47 => ((at_ x22 a1).bind fun y52 => ((label_Sort_1 y47 y52).bind fun y57 => (bif (decide (y57 < (0 : Int))) then (pur (IntKind.i64.wrap (y40 + (1 : Int))) fun y65 => some (.inl (x22, y65, x24))) else some (.inl (x22, x23, y40)))))))))) else some (.inr (x22, x23)))
noncomputable def slices_symMergeCmpFunc_api_Label__label_Sort_1.b4 (o12 : ((List api_Label) × Int)) (x85 : List api_Label) (x86 : Int) : Option (((List api_Label) × Int) ⊕ ((List api_Label))) :=
  (pur (IntKind.i64.wrap (o12.2 - (1 : Int))) fun y93 => (bif (decide (x86 < y93)) then (pur (IntKind.i64.wrap (x86 + (1 : Int))) fun y101 => (pur (IntKind.i64.wrap (x86 + (1 : Int))) fun y103 => ((at_ x85 y103).bind fun y105 => ((at_ x85 x86).bind fun y110 => ((at_ x85 x86).bind fun y115 => (pur (x85.set (x86).toNat y105) fun y117 => ((at_ y117 y101).bind fun y124 => (pur (y117.set (y101).toNat y110) fun y126 => (pur (IntKind.i64.wrap (x86 + (1 : Int))) fun y133 => some (.inl (y126, y133))))))))))) else some (.inr x85)))
noncomputable def slices_symMergeCmpFunc_api_Label__label_Sort_1.b6 (a2 : Int) (x162 : List api_Label) (x163 : Int) (x164 : Int) : Option (((List api_Label) × Int × Int) ⊕ ((List api_Label) × Int)) :=
  (bif (decide (x163 < x164)) then (pur (IntKind.i64.wrap (x163 + x164)) fun y174 => (pur (IntKind.u64.wrap y174) fun y176 => (pur (ishr .u64 y176 (1 : Int)) fun y178 => (pur (IntKind.i64.wrap y178) fun y180 => ((at_ x162 a2).bind fun y187 => ((at_ x162 y180).bind fun y192 => ((label_Sort_1 y187 y192).bind fun y197 => (bif (!(decide (y197 < (0 : Int)))) then (pur (IntKind.i64.wrap (y180 + (1 : Int))) fun y205 => some (.inl (x162, y205, x164))) else some (.inl (x162, x163, y180)))))))))) else some (.inr (x162, x163)))
noncomputable def slices_symMergeCmpFunc_api_Label__label_Sort_1.b8 (o152 : ((List api_Label) × Int)) (x225 : List api_Label) (x226 : Int) : Option (((List api_Label) × Int) ⊕ ((List api_Label))) :=
  (bif (decide (o152.2 < x226)) then (pur (IntKind.i64.wrap (x226 - (1 : Int))) fun y239 => (pur (IntKind.i64.wrap (x226 - (1 : Int))) fun y241 => ((at_ x225 y241).bind fun y243 => ((at_ x225 x226).bind fun y248 => ((at_ x225 x226).bind fun y253 => (pur (x225.set (x226).toNat y243) fun y255 => ((at_ y255 y239).bind fun y262 => (pur (y255.set (y239).toNat y248) fun y264 => (pur (IntKind.i64.wrap (x226 - (1 : Int))) fun y271 => some (.inl (y264, y271))))))))))) else some (.inr x225))
noncomputable def slices_symMergeCmpFunc_api_Label__label_Sort_1.b11 (y313 : Int) (x325 : List api_Label) (x326 : Int) (x327 : Int) : Option (((List api_Label) × Int × Int) ⊕ ((List api_Label) × Int)) :=
  (bif (decide (x326 < x327)) then (pur (IntKind.i64.wrap (x326 + x327)) fun y337 => (pur (IntKind.u64.wrap y337) fun y339 => (pur (ishr .u64 y339 (1 : Int)) fun y341 => (pur (IntKind.i64.wrap y341) fun y343 => (pur (IntKind.i64.wrap (y313 - y343)) fun y350 => ((at_ x325 y350).bind fun y352 => ((at_ x325 y343).bind fun y357 => ((label_Sort_1 y352 y357).bind fun y362 => (bif (!(decide (y362 < (0 : Int)))) then (pur (IntKind.i64.wrap (y343 + (1 : Int))) fun y370 => some (.inl (x325, y370, x327))) else some (.inl (x325, x326, y343))))))))))) else some (.inr (x325, x326)))
noncomputable def slices_symMergeCmpFunc_api_Label__label_Sort_1 : Nat → (List api_Label) → Int → Int → Int → Option (List api_Label)
  | 0, _, _, _, _ => none
  | n + 1, a0, a1, a2, a3 =>
  (pur (IntKind.i64.wrap (a2 - a1)) fun y5 => (bif (y5 == (1 : Int)) then ((iter (fun s : (List api_Label) × Int × Int => slices_symMergeCmpFunc_api_Label__label_Sort_1.b2 a1 s.1 s.2.1 s.2.2) (a0, a2, a3)).bind fun o12 => ((iter (fun s : (List api_Label) × Int => slices_symMergeCmpFunc_api_Label__label_Sort_1.b4 o12 s.1 s.2) (o12.1, a1)).bind fun o73 => some o73)) else (pur (IntKind.i64.wrap (a3 - a2)) fun y145 => (bif (y145 == (1 : Int)) then ((iter (fun s : (List api_Label) × Int × Int => slices_symMergeCmpFunc_api_Label__label_Sort_1.b6 a2 s.1 s.2.1 s.2.2) (a0, a1, a2)).bind fun o152 => ((iter (fun s : (List api_Label) × Int => slices_symMergeCmpFunc_api_Label__label_Sort_1.b8 o152 s.1 s.2) (o152.1, a2)).bind fun o213 => some o213)) else (pur (IntKind.i64.wrap (a1 + a3)) fun y281 => (pur (IntKind.u64.wrap y281) fun y283 => (pur (ishr .u64 y283 (1 : Int)) fun y285 => (pur (IntKind.i64.wrap y285) fun y287 => (pur (IntKind.i64.wrap (y287 + a2)) fun y291 => ((bif (decide (y287 < a2)) then (pur (IntKind.i64.wrap (y291 - a3)) fun y304 => some (y304, y287)) else some (a1, a2)).bind fun o295 => (pur (IntKind.i64.wrap (y291 - (1 : Int))) fun y313 => ((iter (fun s : (List api_Label) × Int × Int => slices_symMergeCmpFunc_api_Label__label_Sort_1.b11 y313 s.1 s.2.1 s.2.2) (a0, o295.1, o295.2)).bind fun o315 => (pur (IntKind.i64.wrap (y291 - o315.2)) fun y380 => (((bif (decide (o315.2 < a2)) then some (decide (a2 < y380)) else some false).bind fun o386 => (bif o386 then ((slices_rotateCmpFunc_api_Label__label_Sort_1 o315.1 o315.2 a2 y380).bind fun y395 => some y395) else some o315.1)).bind fun o382 => (((bif (decide (a1 < o315.2)) then some (decide (o315.2 < y287)) else some false).bind fun o413 => (bif o413 then ((slices_symMergeCmpFunc_api_Label__label_Sort_1 n o382 a1 o315.2 y287).bind fun y422 => some y422) else some o382)).bind fun o409 => ((bif (decide (y287 < y380)) then some (decide (y380 < a3)) else some false).bind fun o436 => (bif o436 then ((slices_symMergeCmpFunc_api_Label__label_Sort_1 n o409 y287 y380 a3).bind fun y445 => some y445) else some o409)))))))))))))))))
set_option maxRecDepth 100000 in
set_option maxHeartbeats 4000000 in
theorem slices_symMergeCmpFunc_api_Label__label_Sort_1_w (n : Nat) : ∀ {S : Nat → Prop} {w : World} {a0 : List api_Label} {a1 : Int} {a2 : Int} {a3 : Int} {v0 : Value} {base0 : Nat} {r : (List api_Label)} (hS : Sb S w) (h0 : Ow api_Label.k 46 S base0 w v0 a0) (h : slices_symMergeCmpFunc_api_Label__label_Sort_1 n a0 a1 a2 a3 = some r),
    Calls Tryz.prog 138 (List.toArray [v0, .int .i64 a1, .int .i64 a2, .int .i64 a3, .func (.func 91) #[] #[]]) w fun e w1 => ∃ S1, e = .returned (.tuple (List.toArray [])) ∧ Cx (Blk v0) S w S1 w1 ∧ Ow api_Label.k 46 S1 base0 w1 v0 r := by
  induction n with
  | zero => intros; rename_i h; rw [slices_symMergeCmpFunc_api_Label__label_Sort_1] at h; cases h
  | succ n ih =>
  intro S w a0 a1 a2 a3 v0 base0 r hS h0 h
  refine enter Tryz.func138 rfl (by kernel_rfl) rfl ?_
  have C := Cx.refl (F := (Blk v0)) hS
  rw [slices_symMergeCmpFunc_api_Label__label_Sort_1] at h
  refine cw_seq fun K1 k2 => ?_
  refine cw_seq fun K3 k4 => ?_
  refine cw_region (sv (mvv (.int .i64 a2) rfl) (sv (mvv (.int .i64 a1) rfl) ?_))
  obtain ⟨y5, h6, h⟩ := pur_some h
  refine sv (rv_sub rfl rfl h6) (sv (rv_eql rfl rfl) (W.e (k4 _ _ ?_)))
  rcases bif_some h with ⟨b7, h⟩ | ⟨b7, h⟩
  · refine cw_t rfl b7 ?_
    refine cw_seq fun K8 k9 => ?_
    refine cw_region (sv (mvv (.int .i64 a2) rfl) (sv (asv (.int .i64 a2) rfl) (W.e (k9 _ _ ?_))))
    refine cw_seq fun K10 k11 => ?_
    refine cw_region (sv (mvv (.int .i64 a3) rfl) (sv (asv (.int .i64 a3) rfl) (W.e (k11 _ _ ?_))))
    obtain ⟨o12, h15, h⟩ := bnd_some h
    refine cw_seq' (fun ρ w1 => ∃ S1, Cx (Blk v0) S w S1 w1 ∧ Has ρ [(0, v0), (1, .int .i64 a1), (10, .int .i64 o12.2)] ∧ Ow api_Label.k 46 S1 base0 w1 v0 o12.1) ?_ ?_
    · refine cw_block ?_
      refine cw_iter h15 (fun s ρ w1 => ∃ S1, Cx (Blk v0) S w S1 w1 ∧ Has ρ [(0, v0), (1, .int .i64 a1), (4, .func (.func 91) #[] #[]), (10, .int .i64 s.2.1), (11, .int .i64 s.2.2)] ∧ Ow api_Label.k 46 S1 base0 w1 v0 s.1) ⟨_, C, ⟨rfl, rfl, rfl, rfl, rfl, trivial⟩, h0⟩ ?_
      rintro ⟨x22, x23, x24⟩ q16 ρ w18 ⟨S17, C, h21, h20⟩ h26 h25
      refine h21.cw fun ρ => ?_
      clear h21
      replace h26 : slices_symMergeCmpFunc_api_Label__label_Sort_1.b2 a1 x22 x23 x24 = some q16 := h26
      unfold slices_symMergeCmpFunc_api_Label__label_Sort_1.b2 at h26
      refine cw_seq fun K27 k28 => ?_
      refine cw_seq fun K29 k30 => ?_
      refine cw_region (sv (mvv (.int .i64 x23) rfl) (sv (mvv (.int .i64 x24) rfl) (sv (rv_lss rfl rfl) (W.e (k30 _ _ ?_)))))
      rcases bif_some h26 with ⟨b31, h26⟩ | ⟨b31, h26⟩
      · refine cw_t rfl b31 (cw_skip (k28 _ _ (cw_block ?_)))
        refine cw_seq fun K32 k33 => ?_
        refine cw_region (sv (mvv (.int .i64 x23) rfl) (sv (mvv (.int .i64 x24) rfl) ?_))
        obtain ⟨y34, h35, h26⟩ := pur_some h26
        refine sv (rv_add rfl rfl h35) ?_
        obtain ⟨y36, h37, h26⟩ := pur_some h26
        refine sv (rv_conv Tryz.underlying3 Tryz.underlying107 rfl h37) ?_
        obtain ⟨y38, h39, h26⟩ := pur_some h26
        refine sv (rv_shr rfl rfl (by decide) h39) ?_
        obtain ⟨y40, h41, h26⟩ := pur_some h26
        refine sv (rv_conv Tryz.underlying107 Tryz.underlying3 rfl h41) (sv (asv (.int .i64 y40) rfl) (W.e (k33 _ _ ?_)))
        refine cw_seq fun K42 k43 => ?_
        refine cw_drawU (.one 0 true (.one 1 true (.one 2 true (.one 3 true (.one 4 true (.one 5 true (.one 6 true (.one 7 true (.one 8 true (.one 9 false (.one 10 true .done))))))))))) [(4, [9]), (8, [9])] [(9, [])] (fun c => bif Nat.beq c 9 then (fun _ => True) else No) fol (by kernel_rfl) fun w44 u45 => ?_
        replace h20 := h20.nw u45
        replace C := C.new u45
        have h20d := h20
        have m46 := Sm.refl (fun _ => True) w44
        refine mtv rfl rfl (mvv (.func (.func 91) #[] #[]) rfl) (mtv rfl rfl (mvv v0 rfl) (mtv rfl rfl (mvv (.int .i64 y40) rfl) ?_))
        obtain ⟨y47, h48, h26⟩ := bnd_some h26
        refine mtv rfl rfl (rv_index el31 h20.sealed rfl rfl h48) ?_
        obtain ⟨v49, h50, h51⟩ := rw_loadO (P := Tryz.prog) el31 h20 h48
        obtain rfl := api_Label.o.1 h50
        refine mtr rfl rfl ⟨m46, trivial⟩ (fun w' hq => h51 w' (hq.1.mono fun _ _ => trivial) rfl) (mtv rfl rfl (mvv v0 rfl) (mtv rfl rfl (mvv (.int .i64 a1) rfl) ?_))
        obtain ⟨y52, h53, h26⟩ := bnd_some h26
        refine mtv rfl rfl (rv_index el31 h20.sealed rfl rfl h53) ?_
        obtain ⟨v54, h55, h56⟩ := rw_loadO (P := Tryz.prog) el31 h20 h53
        obtain rfl := api_Label.o.1 h55
        refine mtr rfl rfl ⟨m46, trivial⟩ (fun w' hq => h56 w' (hq.1.mono fun _ _ => trivial) rfl) ?_
        obtain ⟨y57, h58, h26⟩ := bnd_some h26
        refine mtc rfl rfl (dc_callV rfl (vs := [.agg (List.toArray [.string y47.Name, .string y47.Val]), .agg (List.toArray [.string y52.Name, .string y52.Val])]) can91 rfl ?_)
        refine (label_Sort_1_w C.sb ((api_Label.o (x := y47)).2 rfl) ((api_Label.o (x := y52)).2 rfl) h58).mono ?_
        rintro _ w59 ⟨S60, rfl, c61⟩
        refine ⟨_, rfl, ?_⟩
        replace h20 := h20.cx c61
        replace C := C.trans c61
        have z62 := (c61.up).size
        have m63 := m46.nx c61.up (by omega)
        refine ⟨trivial, ?_⟩
        refine mtv rfl rfl (rv_lss rfl rfl) (MT.e (k43 _ _ ?_))
        rcases bif_some h26 with ⟨b64, h26⟩ | ⟨b64, h26⟩
        · refine cw_t rfl b64 (cw_region (sv (mvv (.int .i64 y40) rfl) ?_))
          obtain ⟨y65, h66, h26⟩ := pur_some h26
          refine sv (rv_add rfl rfl h66) (sv (asv (.int .i64 y65) rfl) (W.e ?_))
          obtain rfl := Option.some.inj h26
          exact ⟨_, rfl, ⟨_, C, ⟨rfl, rfl, rfl, rfl, rfl, trivial⟩, h20⟩⟩
        · refine cw_f rfl b64 (cw_region (sv (mvv (.int .i64 y40) rfl) (sv (asv (.int .i64 y40) rfl) (W.e ?_))))
          obtain rfl := Option.some.inj h26
          exact ⟨_, rfl, ⟨_, C, ⟨rfl, rfl, rfl, rfl, rfl, trivial⟩, h20⟩⟩
      · refine cw_f rfl b31 (cw_exit ?_)
        obtain rfl := Option.some.inj h26
        have h67 := congrArg some h25
        obtain rfl := Option.some.inj h67
        exact ⟨_, C, ⟨rfl, rfl, rfl, trivial⟩, h20⟩
    · rintro ρ w69 ⟨S68, C, h72, h71⟩
      refine h72.cw fun ρ => ?_
      clear h72
      obtain ⟨o73, h76, h⟩ := bnd_some h
      refine cw_seq' (fun ρ w1 => ∃ S1, Cx (Blk v0) S w S1 w1 ∧ Has ρ [(0, v0)] ∧ Ow api_Label.k 46 S1 base0 w1 v0 o73) ?_ ?_
      · refine cw_seq fun K77 k78 => ?_
        refine cw_region (sv (mvv (.int .i64 a1) rfl) (sv (asv (.int .i64 a1) rfl) (W.e (k78 _ _ (cw_block ?_)))))
        refine cw_iter h76 (fun s ρ w1 => ∃ S1, Cx (Blk v0) S w S1 w1 ∧ Has ρ [(0, v0), (10, .int .i64 o12.2), (13, .int .i64 s.2)] ∧ Ow api_Label.k 46 S1 base0 w1 v0 s.1) ⟨_, C, ⟨rfl, rfl, rfl, trivial⟩, h71⟩ ?_
        rintro ⟨x85, x86⟩ q79 ρ w81 ⟨S80, C, h84, h83⟩ h88 h87
        refine h84.cw fun ρ => ?_
        clear h84
        replace h88 : slices_symMergeCmpFunc_api_Label__label_Sort_1.b4 o12 x85 x86 = some q79 := h88
        unfold slices_symMergeCmpFunc_api_Label__label_Sort_1.b4 at h88
        refine cw_seq fun K89 k90 => ?_
        refine cw_seq fun K91 k92 => ?_
        refine cw_region (sv (mvv (.int .i64 x86) rfl) (sv (mvv (.int .i64 o12.2) rfl) ?_))
        obtain ⟨y93, h94, h88⟩ := pur_some h88
        refine sv (rv_sub rfl rfl h94) (sv (rv_lss rfl rfl) (W.e (k92 _ _ ?_)))
        rcases bif_some h88 with ⟨b95, h88⟩ | ⟨b95, h88⟩
        · refine cw_t rfl b95 (cw_skip (k90 _ _ ?_))
          refine cw_seq fun K96 k97 => ?_
          refine cw_block ?_
          refine cw_drawU (.one 0 true (.one 1 true (.one 2 true (.one 3 true (.one 4 true (.one 5 true (.one 6 true (.one 7 true (.one 8 true (.one 9 true (.one 10 true (.one 11 true (.one 12 true (.one 13 true (.one 14 true (.one 15 false (.one 16 true (.one 17 false .done)))))))))))))))))) [(9, [1000]), (13, [1000])] [(15, []), (17, [])] (fun c => bif Nat.beq c 1000 then (Or S80 (Blk v0)) else No) fol (by kernel_rfl) fun w98 u99 => ?_
          replace h83 := h83.nw u99
          replace C := C.new u99
          have h83d := h83
          have m100 := Sm.refl (Or S80 (Blk v0)) w98
          refine mtv rfl rfl (mvv v0 rfl) (mtv rfl rfl (mvv (.int .i64 x86) rfl) (mtv rfl rfl (mvv v0 rfl) (mtv rfl rfl (mvv (.int .i64 x86) rfl) ?_)))
          obtain ⟨y101, h102, h88⟩ := pur_some h88
          refine mtv rfl rfl (rv_add rfl rfl h102) (mtv rfl rfl (mvv v0 rfl) (mtv rfl rfl (mvv (.int .i64 x86) rfl) ?_))
          obtain ⟨y103, h104, h88⟩ := pur_some h88
          refine mtv rfl rfl (rv_add rfl rfl h104) ?_
          obtain ⟨y105, h106, h88⟩ := bnd_some h88
          refine mtv rfl rfl (rv_index el31 h83.sealed rfl rfl h106) ?_
          obtain ⟨v107, h108, h109⟩ := rw_loadO (P := Tryz.prog) el31 h83 h106
          obtain rfl := api_Label.o.1 h108
          refine mtr rfl rfl ⟨m100, trivial⟩ (fun w' hq => h109 w' hq.1 rfl) (mtv rfl rfl (mvv v0 rfl) (mtv rfl rfl (mvv (.int .i64 x86) rfl) ?_))
          obtain ⟨y110, h111, h88⟩ := bnd_some h88
          refine mtv rfl rfl (rv_index el31 h83.sealed rfl rfl h111) ?_
          obtain ⟨v112, h113, h114⟩ := rw_loadO (P := Tryz.prog) el31 h83 h111
          obtain rfl := api_Label.o.1 h113
          refine mtr rfl rfl ⟨m100, trivial⟩ (fun w' hq => h114 w' hq.1 rfl) ?_
          obtain ⟨y115, h116, h88⟩ := bnd_some h88
          refine mtv rfl rfl (rv_index el31 h83.sealed rfl rfl h116) ?_
          obtain ⟨y117, h118, h88⟩ := pur_some h88
          have h122 := h83
          refine mtc rfl rfl (dc_storeO el31 h122 h116 rfl rfl (((api_Label.o (x := y105)).2 rfl)) fun w119 h120 u121 => ?_)
          rw [h118] at h120
          replace C := C.ofp u121 (fun b hb => .inl hb)
          have z123 := (u121).size
          refine ⟨trivial, ?_⟩
          obtain ⟨y124, h125, h88⟩ := bnd_some h88
          refine mtv rfl rfl (rv_index el31 h120.sealed rfl rfl h125) ?_
          obtain ⟨y126, h127, h88⟩ := pur_some h88
          have h131 := h120
          refine mtc rfl rfl (dc_storeO el31 h131 h125 rfl rfl (((api_Label.o (x := y110)).2 rfl)) fun w128 h129 u130 => ?_)
          rw [h127] at h129
          replace C := C.ofp u130 (fun b hb => .inl hb)
          have z132 := (u130).size
          refine ⟨trivial, ?_⟩
          refine MT.e (k97 _ _ (cw_region (sv (mvv (.int .i64 x86) rfl) ?_)))
          obtain ⟨y133, h134, h88⟩ := pur_some h88
          refine sv (rv_add rfl rfl h134) (sv (asv (.int .i64 y133) rfl) (W.e ?_))
          obtain rfl := Option.some.inj h88
          exact ⟨_, rfl, ⟨_, C, ⟨rfl, rfl, rfl, trivial⟩, h129⟩⟩
        · refine cw_f rfl b95 (cw_exit ?_)
          obtain rfl := Option.some.inj h88
          have h135 := congrArg some h87
          obtain rfl := Option.some.inj h135
          exact ⟨_, C, ⟨rfl, trivial⟩, h83⟩
      · rintro ρ w137 ⟨S136, C, h140, h139⟩
        refine h140.cw fun ρ => ?_
        clear h140
        refine cw_ret ?_
        obtain rfl := Option.some.inj h
        exact ⟨_, rfl, _, rfl, C, h139⟩
  · refine cw_f rfl b7 (cw_skip (k2 _ _ ?_))
    refine cw_seq fun K141 k142 => ?_
    refine cw_seq fun K143 k144 => ?_
    refine cw_region (sv (mvv (.int .i64 a3) rfl) (sv (mvv (.int .i64 a2) rfl) ?_))
    obtain ⟨y145, h146, h⟩ := pur_some h
    refine sv (rv_sub rfl rfl h146) (sv (rv_eql rfl rfl) (W.e (k144 _ _ ?_)))
    rcases bif_some h with ⟨b147, h⟩ | ⟨b147, h⟩
    · refine cw_t rfl b147 ?_
      refine cw_seq fun K148 k149 => ?_
      refine cw_region (sv (mvv (.int .i64 a1) rfl) (sv (asv (.int .i64 a1) rfl) (W.e (k149 _ _ ?_))))
      refine cw_seq fun K150 k151 => ?_
      refine cw_region (sv (mvv (.int .i64 a2) rfl) (sv (asv (.int .i64 a2) rfl) (W.e (k151 _ _ ?_))))
      obtain ⟨o152, h155, h⟩ := bnd_some h
      refine cw_seq' (fun ρ w1 => ∃ S1, Cx (Blk v0) S w S1 w1 ∧ Has ρ [(0, v0), (2, .int .i64 a2), (14, .int .i64 o152.2)] ∧ Ow api_Label.k 46 S1 base0 w1 v0 o152.1) ?_ ?_
      · refine cw_block ?_
        refine cw_iter h155 (fun s ρ w1 => ∃ S1, Cx (Blk v0) S w S1 w1 ∧ Has ρ [(0, v0), (2, .int .i64 a2), (4, .func (.func 91) #[] #[]), (14, .int .i64 s.2.1), (15, .int .i64 s.2.2)] ∧ Ow api_Label.k 46 S1 base0 w1 v0 s.1) ⟨_, C, ⟨rfl, rfl, rfl, rfl, rfl, trivial⟩, h0⟩ ?_
        rintro ⟨x162, x163, x164⟩ q156 ρ w158 ⟨S157, C, h161, h160⟩ h166 h165
        refine h161.cw fun ρ => ?_
        clear h161
        replace h166 : slices_symMergeCmpFunc_api_Label__label_Sort_1.b6 a2 x162 x163 x164 = some q156 := h166
        unfold slices_symMergeCmpFunc_api_Label__label_Sort_1.b6 at h166
        refine cw_seq fun K167 k168 => ?_
        refine cw_seq fun K169 k170 => ?_
        refine cw_region (sv (mvv (.int .i64 x163) rfl) (sv (mvv (.int .i64 x164) rfl) (sv (rv_lss rfl rfl) (W.e (k170 _ _ ?_)))))
        rcases bif_some h166 with ⟨b171, h166⟩ | ⟨b171, h166⟩
        · refine cw_t rfl b171 (cw_skip (k168 _ _ (cw_block ?_)))
          refine cw_seq fun K172 k173 => ?_
          refine cw_region (sv (mvv (.int .i64 x163) rfl) (sv (mvv (.int .i64 x164) rfl) ?_))
          obtain ⟨y174, h175, h166⟩ := pur_some h166
          refine sv (rv_add rfl rfl h175) ?_
          obtain ⟨y176, h177, h166⟩ := pur_some h166
          refine sv (rv_conv Tryz.underlying3 Tryz.underlying107 rfl h177) ?_
          obtain ⟨y178, h179, h166⟩ := pur_some h166
          refine sv (rv_shr rfl rfl (by decide) h179) ?_
          obtain ⟨y180, h181, h166⟩ := pur_some h166
          refine sv (rv_conv Tryz.underlying107 Tryz.underlying3 rfl h181) (sv (asv (.int .i64 y180) rfl) (W.e (k173 _ _ ?_)))
          refine cw_seq fun K182 k183 => ?_
          refine cw_drawU (.one 0 true (.one 1 true (.one 2 true (.one 3 true (.one 4 true (.one 5 true (.one 6 true (.one 7 true (.one 8 true (.one 9 false (.one 10 true (.one 11 true .done)))))))))))) [(4, [9]), (8, [9])] [(9, [])] (fun c => bif Nat.beq c 9 then (fun _ => True) else No) fol (by kernel_rfl) fun w184 u185 => ?_
          replace h160 := h160.nw u185
          replace C := C.new u185
          have h160d := h160
          have m186 := Sm.refl (fun _ => True) w184
          refine mtv rfl rfl (mvv (.func (.func 91) #[] #[]) rfl) (mtv rfl rfl (mvv v0 rfl) (mtv rfl rfl (mvv (.int .i64 a2) rfl) ?_))
          obtain ⟨y187, h188, h166⟩ := bnd_some h166
          refine mtv rfl rfl (rv_index el31 h160.sealed rfl rfl h188) ?_
          obtain ⟨v189, h190, h191⟩ := rw_loadO (P := Tryz.prog) el31 h160 h188
          obtain rfl := api_Label.o.1 h190
          refine mtr rfl rfl ⟨m186, trivial⟩ (fun w' hq => h191 w' (hq.1.mono fun _ _ => trivial) rfl) (mtv rfl rfl (mvv v0 rfl) (mtv rfl rfl (mvv (.int .i64 y180) rfl) ?_))
          obtain ⟨y192, h193, h166⟩ := bnd_some h166
          refine mtv rfl rfl (rv_index el31 h160.sealed rfl rfl h193) ?_
          obtain ⟨v194, h195, h196⟩ := rw_loadO (P := Tryz.prog) el31 h160 h193
          obtain rfl := api_Label.o.1 h195
          refine mtr rfl rfl ⟨m186, trivial⟩ (fun w' hq => h196 w' (hq.1.mono fun _ _ => trivial) rfl) ?_
          obtain ⟨y197, h198, h166⟩ := bnd_some h166
          refine mtc rfl rfl (dc_callV rfl (vs := [.agg (List.toArray [.string y187.Name, .string y187.Val]), .agg (List.toArray [.string y192.Name, .string y192.Val])]) can91 rfl ?_)
          refine (label_Sort_1_w C.sb ((api_Label.o (x := y187)).2 rfl) ((api_Label.o (x := y192)).2 rfl) h198).mono ?_
          rintro _ w199 ⟨S200, rfl, c201⟩
          refine ⟨_, rfl, ?_⟩
          replace h160 := h160.cx c201
          replace C := C.trans c201
          have z202 := (c201.up).size
          have m203 := m186.nx c201.up (by omega)
          refine ⟨trivial, ?_⟩
          refine mtv rfl rfl (rv_lss rfl rfl) (mtv rfl rfl (rv_not rfl) (MT.e (k183 _ _ ?_)))
          rcases bif_some h166 with ⟨b204, h166⟩ | ⟨b204, h166⟩
          · refine cw_t rfl b204 (cw_region (sv (mvv (.int .i64 y180) rfl) ?_))
            obtain ⟨y205, h206, h166⟩ := pur_some h166
            refine sv (rv_add rfl rfl h206) (sv (asv (.int .i64 y205) rfl) (W.e ?_))
            obtain rfl := Option.some.inj h166
            exact ⟨_, rfl, ⟨_, C, ⟨rfl, rfl, rfl, rfl, rfl, trivial⟩, h160⟩⟩
          · refine cw_f rfl b204 (cw_region (sv (mvv (.int .i64 y180) rfl) (sv (asv (.int .i64 y180) rfl) (W.e ?_))))
            obtain rfl := Option.some.inj h166
            exact ⟨_, rfl, ⟨_, C, ⟨rfl, rfl, rfl, rfl, rfl, trivial⟩, h160⟩⟩
        · refine cw_f rfl b171 (cw_exit ?_)
          obtain rfl := Option.some.inj h166
          have h207 := congrArg some h165
          obtain rfl := Option.some.inj h207
          exact ⟨_, C, ⟨rfl, rfl, rfl, trivial⟩, h160⟩
      · rintro ρ w209 ⟨S208, C, h212, h211⟩
        refine h212.cw fun ρ => ?_
        clear h212
        obtain ⟨o213, h216, h⟩ := bnd_some h
        refine cw_seq' (fun ρ w1 => ∃ S1, Cx (Blk v0) S w S1 w1 ∧ Has ρ [(0, v0)] ∧ Ow api_Label.k 46 S1 base0 w1 v0 o213) ?_ ?_
        · refine cw_seq fun K217 k218 => ?_
          refine cw_region (sv (mvv (.int .i64 a2) rfl) (sv (asv (.int .i64 a2) rfl) (W.e (k218 _ _ (cw_block ?_)))))
          refine cw_iter h216 (fun s ρ w1 => ∃ S1, Cx (Blk v0) S w S1 w1 ∧ Has ρ [(0, v0), (14, .int .i64 o152.2), (17, .int .i64 s.2)] ∧ Ow api_Label.k 46 S1 base0 w1 v0 s.1) ⟨_, C, ⟨rfl, rfl, rfl, trivial⟩, h211⟩ ?_
          rintro ⟨x225, x226⟩ q219 ρ w221 ⟨S220, C, h224, h223⟩ h228 h227
          refine h224.cw fun ρ => ?_
          clear h224
          replace h228 : slices_symMergeCmpFunc_api_Label__label_Sort_1.b8 o152 x225 x226 = some q219 := h228
          unfold slices_symMergeCmpFunc_api_Label__label_Sort_1.b8 at h228
          refine cw_seq fun K229 k230 => ?_
          refine cw_seq fun K231 k232 => ?_
          refine cw_region (sv (mvv (.int .i64 x226) rfl) (sv (mvv (.int .i64 o152.2) rfl) (sv (rv_gtr rfl rfl) (W.e (k232 _ _ ?_)))))
          rcases bif_some h228 with ⟨b233, h228⟩ | ⟨b233, h228⟩
          · refine cw_t rfl b233 (cw_skip (k230 _ _ ?_))
            refine cw_seq fun K234 k235 => ?_
            refine cw_block ?_
            refine cw_drawU (.one 0 true (.one 1 true (.one 2 true (.one 3 true (.one 4 true (.one 5 true (.one 6 true (.one 7 true (.one 8 true (.one 9 true (.one 10 true (.one 11 true (.one 12 true (.one 13 true (.one 14 true (.one 15 false (.one 16 true (.one 17 false .done)))))))))))))))))) [(9, [1000]), (13, [1000])] [(15, []), (17, [])] (fun c => bif Nat.beq c 1000 then (Or S220 (Blk v0)) else No) fol (by kernel_rfl) fun w236 u237 => ?_
            replace h223 := h223.nw u237
            replace C := C.new u237
            have h223d := h223
            have m238 := Sm.refl (Or S220 (Blk v0)) w236
            refine mtv rfl rfl (mvv v0 rfl) (mtv rfl rfl (mvv (.int .i64 x226) rfl) (mtv rfl rfl (mvv v0 rfl) (mtv rfl rfl (mvv (.int .i64 x226) rfl) ?_)))
            obtain ⟨y239, h240, h228⟩ := pur_some h228
            refine mtv rfl rfl (rv_sub rfl rfl h240) (mtv rfl rfl (mvv v0 rfl) (mtv rfl rfl (mvv (.int .i64 x226) rfl) ?_))
            obtain ⟨y241, h242, h228⟩ := pur_some h228
            refine mtv rfl rfl (rv_sub rfl rfl h242) ?_
            obtain ⟨y243, h244, h228⟩ := bnd_some h228
            refine mtv rfl rfl (rv_index el31 h223.sealed rfl rfl h244) ?_
            obtain ⟨v245, h246, h247⟩ := rw_loadO (P := Tryz.prog) el31 h223 h244
            obtain rfl := api_Label.o.1 h246
            refine mtr rfl rfl ⟨m238, trivial⟩ (fun w' hq => h247 w' hq.1 rfl) (mtv rfl rfl (mvv v0 rfl) (mtv rfl rfl (mvv (.int .i64 x226) rfl) ?_))
            obtain ⟨y248, h249, h228⟩ := bnd_some h228
            refine mtv rfl rfl (rv_index el31 h223.sealed rfl rfl h249) ?_
            obtain ⟨v250, h251, h252⟩ := rw_loadO (P := Tryz.prog) el31 h223 h249
            obtain rfl := api_Label.o.1 h251
            refine mtr rfl rfl ⟨m238, trivial⟩ (fun w' hq => h252 w' hq.1 rfl) ?_
            obtain ⟨y253, h254, h228⟩ := bnd_some h228
            refine mtv rfl rfl (rv_index el31 h223.sealed rfl rfl h254) ?_
            obtain ⟨y255, h256, h228⟩ := pur_some h228
            have h260 := h223
            refine mtc rfl rfl (dc_storeO el31 h260 h254 rfl rfl (((api_Label.o (x := y243)).2 rfl)) fun w257 h258 u259 => ?_)
            rw [h256] at h258
            replace C := C.ofp u259 (fun b hb => .inl hb)
            have z261 := (u259).size
            refine ⟨trivial, ?_⟩
            obtain ⟨y262, h263, h228⟩ := bnd_some h228
            refine mtv rfl rfl (rv_index el31 h258.sealed rfl rfl h263) ?_
            obtain ⟨y264, h265, h228⟩ := pur_some h228
            have h269 := h258
            refine mtc rfl rfl (dc_storeO el31 h269 h263 rfl rfl (((api_Label.o (x := y248)).2 rfl)) fun w266 h267 u268 => ?_)
            rw [h265] at h267
            replace C := C.ofp u268 (fun b hb => .inl hb)
            have z270 := (u268).size
            refine ⟨trivial, ?_⟩
            refine MT.e (k235 _ _ (cw_region (sv (mvv (.int .i64 x226) rfl) ?_)))
            obtain ⟨y271, h272, h228⟩ := pur_some h228
            refine sv (rv_sub rfl rfl h272) (sv (asv (.int .i64 y271) rfl) (W.e ?_))
            obtain rfl := Option.some.inj h228
            exact ⟨_, rfl, ⟨_, C, ⟨rfl, rfl, rfl, trivial⟩, h267⟩⟩
          · refine cw_f rfl b233 (cw_exit ?_)
            obtain rfl := Option.some.inj h228
            have h273 := congrArg some h227
            obtain rfl := Option.some.inj h273
            exact ⟨_, C, ⟨rfl, trivial⟩, h223⟩
        · rintro ρ w275 ⟨S274, C, h278, h277⟩
          refine h278.cw fun ρ => ?_
          clear h278
          refine cw_ret ?_
          obtain rfl := Option.some.inj h
          exact ⟨_, rfl, _, rfl, C, h277⟩
    · refine cw_f rfl b147 (cw_skip (k142 _ _ ?_))
      refine cw_seq fun K279 k280 => ?_
      refine cw_region (sv (mvv (.int .i64 a1) rfl) (sv (mvv (.int .i64 a3) rfl) ?_))
      obtain ⟨y281, h282, h⟩ := pur_some h
      refine sv (rv_add rfl rfl h282) ?_
      obtain ⟨y283, h284, h⟩ := pur_some h
      refine sv (rv_conv Tryz.underlying3 Tryz.underlying107 rfl h284) ?_
      obtain ⟨y285, h286, h⟩ := pur_some h
      refine sv (rv_shr rfl rfl (by decide) h286) ?_
      obtain ⟨y287, h288, h⟩ := pur_some h
      refine sv (rv_conv Tryz.underlying107 Tryz.underlying3 rfl h288) (sv (asv (.int .i64 y287) rfl) (W.e (k280 _ _ ?_)))
      refine cw_seq fun K289 k290 => ?_
      refine cw_region (sv (mvv (.int .i64 y287) rfl) (sv (mvv (.int .i64 a2) rfl) ?_))
      obtain ⟨y291, h292, h⟩ := pur_some h
      refine sv (rv_add rfl rfl h292) (sv (asv (.int .i64 y291) rfl) (W.e (k290 _ _ ?_)))
      refine cw_seq fun K293 k294 => ?_
      refine cw_region (sv (asv (.int .i64 0) rfl) (sv (asv (.int .i64 0) rfl) (W.e (k294 _ _ ?_))))
      obtain ⟨o295, h298, h⟩ := bnd_some h
      refine cw_seq' (fun ρ w1 => ∃ S1, Cx (Blk v0) S w S1 w1 ∧ Has ρ [(0, v0), (1, .int .i64 a1), (2, .int .i64 a2), (3, .int .i64 a3), (4, .func (.func 91) #[] #[]), (18, .int .i64 y287), (19, .int .i64 y291), (20, .int .i64 o295.1), (21, .int .i64 o295.2)] ∧ Ow api_Label.k 46 S1 base0 w1 v0 a0) ?_ ?_
      · refine cw_seq fun K299 k300 => ?_
        refine cw_region (sv (mvv (.int .i64 a2) rfl) (sv (mvv (.int .i64 y287) rfl) (sv (rv_gtr rfl rfl) (W.e (k300 _ _ ?_)))))
        rcases bif_some h298 with ⟨b301, h298⟩ | ⟨b301, h298⟩
        · refine cw_t rfl b301 ?_
          refine cw_seq fun K302 k303 => ?_
          refine cw_region (sv (mvv (.int .i64 y291) rfl) (sv (mvv (.int .i64 a3) rfl) ?_))
          obtain ⟨y304, h305, h298⟩ := pur_some h298
          refine sv (rv_sub rfl rfl h305) (sv (asv (.int .i64 y304) rfl) (W.e (k303 _ _ (cw_region (sv (mvv (.int .i64 y287) rfl) (sv (asv (.int .i64 y287) rfl) (W.e ?_)))))))
          obtain rfl := Option.some.inj h298
          exact ⟨_, C, ⟨rfl, rfl, rfl, rfl, rfl, rfl, rfl, rfl, rfl, trivial⟩, h0⟩
        · refine cw_f rfl b301 ?_
          refine cw_seq fun K306 k307 => ?_
          refine cw_region (sv (mvv (.int .i64 a1) rfl) (sv (asv (.int .i64 a1) rfl) (W.e (k307 _ _ (cw_region (sv (mvv (.int .i64 a2) rfl) (sv (asv (.int .i64 a2) rfl) (W.e ?_))))))))
          obtain rfl := Option.some.inj h298
          exact ⟨_, C, ⟨rfl, rfl, rfl, rfl, rfl, rfl, rfl, rfl, rfl, trivial⟩, h0⟩
      · rintro ρ w309 ⟨S308, C, h310, h0⟩
        refine h310.cw fun ρ => ?_
        clear h310
        refine cw_seq fun K311 k312 => ?_
        refine cw_region (sv (mvv (.int .i64 y291) rfl) ?_)
        obtain ⟨y313, h314, h⟩ := pur_some h
        refine sv (rv_sub rfl rfl h314) (sv (asv (.int .i64 y313) rfl) (W.e (k312 _ _ ?_)))
        obtain ⟨o315, h318, h⟩ := bnd_some h
        refine cw_seq' (fun ρ w1 => ∃ S1, Cx (Blk v0) S w S1 w1 ∧ Has ρ [(0, v0), (1, .int .i64 a1), (2, .int .i64 a2), (3, .int .i64 a3), (4, .func (.func 91) #[] #[]), (18, .int .i64 y287), (19, .int .i64 y291), (20, .int .i64 o315.2)] ∧ Ow api_Label.k 46 S1 base0 w1 v0 o315.1) ?_ ?_
        · refine cw_block ?_
          refine cw_iter h318 (fun s ρ w1 => ∃ S1, Cx (Blk v0) S w S1 w1 ∧ Has ρ [(0, v0), (1, .int .i64 a1), (2, .int .i64 a2), (3, .int .i64 a3), (4, .func (.func 91) #[] #[]), (18, .int .i64 y287), (19, .int .i64 y291), (20, .int .i64 s.2.1), (21, .int .i64 s.2.2), (22, .int .i64 y313)] ∧ Ow api_Label.k 46 S1 base0 w1 v0 s.1) ⟨_, C, ⟨rfl, rfl, rfl, rfl, rfl, rfl, rfl, rfl, rfl, rfl, trivial⟩, h0⟩ ?_
          rintro ⟨x325, x326, x327⟩ q319 ρ w321 ⟨S320, C, h324, h323⟩ h329 h328
          refine h324.cw fun ρ => ?_
          clear h324
          replace h329 : slices_symMergeCmpFunc_api_Label__label_Sort_1.b11 y313 x325 x326 x327 = some q319 := h329
          unfold slices_symMergeCmpFunc_api_Label__label_Sort_1.b11 at h329
          refine cw_seq fun K330 k331 => ?_
          refine cw_seq fun K332 k333 => ?_
          refine cw_region (sv (mvv (.int .i64 x326) rfl) (sv (mvv (.int .i64 x327) rfl) (sv (rv_lss rfl rfl) (W.e (k333 _ _ ?_)))))
          rcases bif_some h329 with ⟨b334, h329⟩ | ⟨b334, h329⟩
          · refine cw_t rfl b334 (cw_skip (k331 _ _ (cw_block ?_)))
            refine cw_seq fun K335 k336 => ?_
            refine cw_region (sv (mvv (.int .i64 x326) rfl) (sv (mvv (.int .i64 x327) rfl) ?_))
            obtain ⟨y337, h338, h329⟩ := pur_some h329
            refine sv (rv_add rfl rfl h338) ?_
            obtain ⟨y339, h340, h329⟩ := pur_some h329
            refine sv (rv_conv Tryz.underlying3 Tryz.underlying107 rfl h340) ?_
            obtain ⟨y341, h342, h329⟩ := pur_some h329
            refine sv (rv_shr rfl rfl (by decide) h342) ?_
            obtain ⟨y343, h344, h329⟩ := pur_some h329
            refine sv (rv_conv Tryz.underlying107 Tryz.underlying3 rfl h344) (sv (asv (.int .i64 y343) rfl) (W.e (k336 _ _ ?_)))
            refine cw_seq fun K345 k346 => ?_
            refine cw_drawU (.one 0 true (.one 1 true (.one 2 true (.one 3 true (.one 4 true (.one 5 true (.one 6 true (.one 7 true (.one 8 true (.one 9 true (.one 10 true (.one 11 false (.one 12 true (.one 13 true .done)))))))))))))) [(6, [9]), (10, [9])] [(11, [])] (fun c => bif Nat.beq c 9 then (fun _ => True) else No) fol (by kernel_rfl) fun w347 u348 => ?_
            replace h323 := h323.nw u348
            replace C := C.new u348
            have h323d := h323
            have m349 := Sm.refl (fun _ => True) w347
            refine mtv rfl rfl (mvv (.func (.func 91) #[] #[]) rfl) (mtv rfl rfl (mvv v0 rfl) (mtv rfl rfl (mvv (.int .i64 y313) rfl) (mtv rfl rfl (mvv (.int .i64 y343) rfl) ?_)))
            obtain ⟨y350, h351, h329⟩ := pur_some h329
            refine mtv rfl rfl (rv_sub rfl rfl h351) ?_
            obtain ⟨y352, h353, h329⟩ := bnd_some h329
            refine mtv rfl rfl (rv_index el31 h323.sealed rfl rfl h353) ?_
            obtain ⟨v354, h355, h356⟩ := rw_loadO (P := Tryz.prog) el31 h323 h353
            obtain rfl := api_Label.o.1 h355
            refine mtr rfl rfl ⟨m349, trivial⟩ (fun w' hq => h356 w' (hq.1.mono fun _ _ => trivial) rfl) (mtv rfl rfl (mvv v0 rfl) (mtv rfl rfl (mvv (.int .i64 y343) rfl) ?_))
            obtain ⟨y357, h358, h329⟩ := bnd_some h329
            refine mtv rfl rfl (rv_index el31 h323.sealed rfl rfl h358) ?_
            obtain ⟨v359, h360, h361⟩ := rw_loadO (P := Tryz.prog) el31 h323 h358
            obtain rfl := api_Label.o.1 h360
            refine mtr rfl rfl ⟨m349, trivial⟩ (fun w' hq => h361 w' (hq.1.mono fun _ _ => trivial) rfl) ?_
            obtain ⟨y362, h363, h329⟩ := bnd_some h329
            refine mtc rfl rfl (dc_callV rfl (vs := [.agg (List.toArray [.string y352.Name, .string y352.Val]), .agg (List.toArray [.string y357.Name, .string y357.Val])]) can91 rfl ?_)
            refine (label_Sort_1_w C.sb ((api_Label.o (x := y352)).2 rfl) ((api_Label.o (x := y357)).2 rfl) h363).mono ?_
            rintro _ w364 ⟨S365, rfl, c366⟩
            refine ⟨_, rfl, ?_⟩
            replace h323 := h323.cx c366
            replace C := C.trans c366
            have z367 := (c366.up).size
            have m368 := m349.nx c366.up (by omega)
            refine ⟨trivial, ?_⟩
            refine mtv rfl rfl (rv_lss rfl rfl) (mtv rfl rfl (rv_not rfl) (MT.e (k346 _ _ ?_)))
            rcases bif_some h329 with ⟨b369, h329⟩ | ⟨b369, h329⟩
            · refine cw_t rfl b369 (cw_region (sv (mvv (.int .i64 y343) rfl) ?_))
              obtain ⟨y370, h371, h329⟩ := pur_some h329
              refine sv (rv_add rfl rfl h371) (sv (asv (.int .i64 y370) rfl) (W.e ?_))
              obtain rfl := Option.some.inj h329
              exact ⟨_, rfl, ⟨_, C, ⟨rfl, rfl, rfl, rfl, rfl, rfl, rfl, rfl, rfl, rfl, trivial⟩, h323⟩⟩
            · refine cw_f rfl b369 (cw_region (sv (mvv (.int .i64 y343) rfl) (sv (asv (.int .i64 y343) rfl) (W.e ?_))))
              obtain rfl := Option.some.inj h329
              exact ⟨_, rfl, ⟨_, C, ⟨rfl, rfl, rfl, rfl, rfl, rfl, rfl, rfl, rfl, rfl, trivial⟩, h323⟩⟩
          · refine cw_f rfl b334 (cw_exit ?_)
            obtain rfl := Option.some.inj h329
            have h372 := congrArg some h328
            obtain rfl := Option.some.inj h372
            exact ⟨_, C, ⟨rfl, rfl, rfl, rfl, rfl, rfl, rfl, rfl, trivial⟩, h323⟩
        · rintro ρ w374 ⟨S373, C, h377, h376⟩
          refine h377.cw fun ρ => ?_
          clear h377
          refine cw_seq fun K378 k379 => ?_
          refine cw_region (sv (mvv (.int .i64 y291) rfl) (sv (mvv (.int .i64 o315.2) rfl) ?_))
          obtain ⟨y380, h381, h⟩ := pur_some h
          refine sv (rv_sub rfl rfl h381) (sv (asv (.int .i64 y380) rfl) (W.e (k379 _ _ ?_)))
          obtain ⟨o382, h385, h⟩ := bnd_some h
          refine cw_seq' (fun ρ w1 => ∃ S1, Cx (Blk v0) S w S1 w1 ∧ Has ρ [(0, v0), (1, .int .i64 a1), (3, .int .i64 a3), (4, .func (.func 91) #[] #[]), (18, .int .i64 y287), (20, .int .i64 o315.2), (24, .int .i64 y380)] ∧ Ow api_Label.k 46 S1 base0 w1 v0 o382) ?_ ?_
          · obtain ⟨o386, h389, h385⟩ := bnd_some h385
            refine cw_seq' (fun ρ w1 => ∃ S1, Cx (Blk v0) S w S1 w1 ∧ Has ρ [(0, v0), (1, .int .i64 a1), (2, .int .i64 a2), (3, .int .i64 a3), (4, .func (.func 91) #[] #[]), (18, .int .i64 y287), (20, .int .i64 o315.2), (24, .int .i64 y380), (185, .bool o386)] ∧ Ow api_Label.k 46 S1 base0 w1 v0 o315.1) ?_ ?_
            · refine cw_region (sv (mvv (.int .i64 o315.2) rfl) (sv (mvv (.int .i64 a2) rfl) (sv (rv_lss rfl rfl) (sv (mvv (.bool (decide (o315.2 < a2))) rfl) ?_))))
              rcases bif_some h389 with ⟨b390, h389⟩ | ⟨b390, h389⟩
              · refine W.v (gy rfl rfl rfl b390) (mvv (.int .i64 a2) rfl) (W.v (gy rfl rfl rfl b390) (mvv (.int .i64 y380) rfl) (W.v (gy rfl rfl rfl b390) (rv_lss rfl rfl) (sv (ptk (.bool (decide (a2 < y380))) rfl b390 rfl) (W.e ?_))))
                obtain rfl := Option.some.inj h389
                exact ⟨_, C, ⟨rfl, rfl, rfl, rfl, rfl, rfl, rfl, rfl, rfl, trivial⟩, h376⟩
              · refine W.n (gn rfl rfl rfl b390) (W.n (gn rfl rfl rfl b390) (W.n (gn rfl rfl rfl b390) (sv (pfk (.bool false) rfl b390 rfl) (W.e ?_))))
                obtain rfl := Option.some.inj h389
                exact ⟨_, C, ⟨rfl, rfl, rfl, rfl, rfl, rfl, rfl, rfl, rfl, trivial⟩, h376⟩
            · rintro ρ w392 ⟨S391, C, h393, h376⟩
              refine h393.cw fun ρ => ?_
              clear h393
              rcases bif_some h385 with ⟨b394, h385⟩ | ⟨b394, h385⟩
              · refine cw_t rfl b394 (cw_region (sv (mvv v0 rfl) (sv (mvv (.int .i64 o315.2) rfl) (sv (mvv (.int .i64 a2) rfl) (sv (mvv (.int .i64 y380) rfl) (sv (mvv (.func (.func 91) #[] #[]) rfl) ?_))))))
                obtain ⟨y395, h396, h385⟩ := bnd_some h385
                refine sc (dc_call (vs := [v0, .int .i64 o315.2, .int .i64 a2, .int .i64 y380, .func (.func 91) #[] #[]]) can142 rfl ?_)
                refine (slices_rotateCmpFunc_api_Label__label_Sort_1_w C.sb h376 h396).mono ?_
                rintro _ w397 ⟨S402, rfl, c403, h399⟩
                refine ⟨_, rfl, ?_⟩
                replace C := C.ofc c403 (fun b hb => .inl hb)
                refine W.e ?_
                obtain rfl := Option.some.inj h385
                exact ⟨_, C, ⟨rfl, rfl, rfl, rfl, rfl, rfl, rfl, trivial⟩, h399⟩
              · refine cw_f rfl b394 (cw_skip ?_)
                obtain rfl := Option.some.inj h385
                exact ⟨_, C, ⟨rfl, rfl, rfl, rfl, rfl, rfl, rfl, trivial⟩, h376⟩
          · rintro ρ w405 ⟨S404, C, h408, h407⟩
            refine h408.cw fun ρ => ?_
            clear h408
            obtain ⟨o409, h412, h⟩ := bnd_some h
            refine cw_seq' (fun ρ w1 => ∃ S1, Cx (Blk v0) S w S1 w1 ∧ Has ρ [(0, v0), (3, .int .i64 a3), (4, .func (.func 91) #[] #[]), (18, .int .i64 y287), (24, .int .i64 y380)] ∧ Ow api_Label.k 46 S1 base0 w1 v0 o409) ?_ ?_
            · obtain ⟨o413, h416, h412⟩ := bnd_some h412
              refine cw_seq' (fun ρ w1 => ∃ S1, Cx (Blk v0) S w S1 w1 ∧ Has ρ [(0, v0), (1, .int .i64 a1), (3, .int .i64 a3), (4, .func (.func 91) #[] #[]), (18, .int .i64 y287), (20, .int .i64 o315.2), (24, .int .i64 y380), (199, .bool o413)] ∧ Ow api_Label.k 46 S1 base0 w1 v0 o382) ?_ ?_
              · refine cw_region (sv (mvv (.int .i64 a1) rfl) (sv (mvv (.int .i64 o315.2) rfl) (sv (rv_lss rfl rfl) (sv (mvv (.bool (decide (a1 < o315.2))) rfl) ?_))))
                rcases bif_some h416 with ⟨b417, h416⟩ | ⟨b417, h416⟩
                · refine W.v (gy rfl rfl rfl b417) (mvv (.int .i64 o315.2) rfl) (W.v (gy rfl rfl rfl b417) (mvv (.int .i64 y287) rfl) (W.v (gy rfl rfl rfl b417) (rv_lss rfl rfl) (sv (ptk (.bool (decide (o315.2 < y287))) rfl b417 rfl) (W.e ?_))))
                  obtain rfl := Option.some.inj h416
                  exact ⟨_, C, ⟨rfl, rfl, rfl, rfl, rfl, rfl, rfl, rfl, trivial⟩, h407⟩
                · refine W.n (gn rfl rfl rfl b417) (W.n (gn rfl rfl rfl b417) (W.n (gn rfl rfl rfl b417) (sv (pfk (.bool false) rfl b417 rfl) (W.e ?_))))
                  obtain rfl := Option.some.inj h416
                  exact ⟨_, C, ⟨rfl, rfl, rfl, rfl, rfl, rfl, rfl, rfl, trivial⟩, h407⟩
              · rintro ρ w419 ⟨S418, C, h420, h407⟩
                refine h420.cw fun ρ => ?_
                clear h420
                rcases bif_some h412 with ⟨b421, h412⟩ | ⟨b421, h412⟩
                · refine cw_t rfl b421 (cw_region (sv (mvv v0 rfl) (sv (mvv (.int .i64 a1) rfl) (sv (mvv (.int .i64 o315.2) rfl) (sv (mvv (.int .i64 y287) rfl) (sv (mvv (.func (.func 91) #[] #[]) rfl) ?_))))))
                  obtain ⟨y422, h423, h412⟩ := bnd_some h412
                  refine sc (dc_call (vs := [v0, .int .i64 a1, .int .i64 o315.2, .int .i64 y287, .func (.func 91) #[] #[]]) can138 rfl ?_)
                  refine (ih C.sb h407 h423).mono ?_
                  rintro _ w424 ⟨S429, rfl, c430, h426⟩
                  refine ⟨_, rfl, ?_⟩
                  replace C := C.ofc c430 (fun b hb => .inl hb)
                  refine W.e ?_
                  obtain rfl := Option.some.inj h412
                  exact ⟨_, C, ⟨rfl, rfl, rfl, rfl, rfl, trivial⟩, h426⟩
                · refine cw_f rfl b421 (cw_skip ?_)
                  obtain rfl := Option.some.inj h412
                  exact ⟨_, C, ⟨rfl, rfl, rfl, rfl, rfl, trivial⟩, h407⟩
            · rintro ρ w432 ⟨S431, C, h435, h434⟩
              refine h435.cw fun ρ => ?_
              clear h435
              obtain ⟨o436, h439, h⟩ := bnd_some h
              refine cw_seq' (fun ρ w1 => ∃ S1, Cx (Blk v0) S w S1 w1 ∧ Has ρ [(0, v0), (3, .int .i64 a3), (4, .func (.func 91) #[] #[]), (18, .int .i64 y287), (24, .int .i64 y380), (213, .bool o436)] ∧ Ow api_Label.k 46 S1 base0 w1 v0 o409) ?_ ?_
              · refine cw_region (sv (mvv (.int .i64 y287) rfl) (sv (mvv (.int .i64 y380) rfl) (sv (rv_lss rfl rfl) (sv (mvv (.bool (decide (y287 < y380))) rfl) ?_))))
                rcases bif_some h439 with ⟨b440, h439⟩ | ⟨b440, h439⟩
                · refine W.v (gy rfl rfl rfl b440) (mvv (.int .i64 y380) rfl) (W.v (gy rfl rfl rfl b440) (mvv (.int .i64 a3) rfl) (W.v (gy rfl rfl rfl b440) (rv_lss rfl rfl) (sv (ptk (.bool (decide (y380 < a3))) rfl b440 rfl) (W.e ?_))))
                  obtain rfl := Option.some.inj h439
                  exact ⟨_, C, ⟨rfl, rfl, rfl, rfl, rfl, rfl, trivial⟩, h434⟩
                · refine W.n (gn rfl rfl rfl b440) (W.n (gn rfl rfl rfl b440) (W.n (gn rfl rfl rfl b440) (sv (pfk (.bool false) rfl b440 rfl) (W.e ?_))))
                  obtain rfl := Option.some.inj h439
                  exact ⟨_, C, ⟨rfl, rfl, rfl, rfl, rfl, rfl, trivial⟩, h434⟩
              · rintro ρ w442 ⟨S441, C, h443, h434⟩
                refine h443.cw fun ρ => ?_
                clear h443
                rcases bif_some h with ⟨b444, h⟩ | ⟨b444, h⟩
                · refine cw_t rfl b444 (cw_region (sv (mvv v0 rfl) (sv (mvv (.int .i64 y287) rfl) (sv (mvv (.int .i64 y380) rfl) (sv (mvv (.int .i64 a3) rfl) (sv (mvv (.func (.func 91) #[] #[]) rfl) ?_))))))
                  obtain ⟨y445, h446, h⟩ := bnd_some h
                  refine sc (dc_call (vs := [v0, .int .i64 y287, .int .i64 y380, .int .i64 a3, .func (.func 91) #[] #[]]) can138 rfl ?_)
                  refine (ih C.sb h434 h446).mono ?_
                  rintro _ w447 ⟨S452, rfl, c453, h449⟩
                  refine ⟨_, rfl, ?_⟩
                  replace C := C.ofc c453 (fun b hb => .inl hb)
                  refine W.e ?_
                  obtain rfl := Option.some.inj h
                  exact ⟨_, rfl, _, rfl, C, h449⟩
                · refine cw_f rfl b444 (cw_skip ?_)
                  obtain rfl := Option.some.inj h
                  exact ⟨_, rfl, _, rfl, C, h434⟩

noncomputable def slices_stableCmpFunc_api_Label__label_Sort_1.b2 (a1 : Int) (x15 : List api_Label) (x16 : Int) (x17 : Int) : Option (((List api_Label) × Int × Int) ⊕ ((List api_Label) × Int)) :=
  (bif (decide (x17 ≤ a1)) then ((slices_insertionSortCmpFunc_api_Label__label_Sort_1 x15 x16 x17).bind fun y27 => (pur (IntKind.i64.wrap (x17 + (20 : Int))) fun y38 => some (.inl (y27, x17, y38)))) else some (.inr (x15, x16)))
noncomputable def slices_stableCmpFunc_api_Label__label_Sort_1.b5 (a1 : Int) (x64 : Int) (x86 : List api_Label) (x87 : Int) (x88 : Int) : Option (((List api_Label) × Int × Int) ⊕ ((List api_Label) × Int)) :=
  (bif (decide (x88 ≤ a1)) then (pur (IntKind.i64.wrap (x87 + x64)) fun y98 => ((slices_symMergeCmpFunc_api_Label__label_Sort_1 64 x86 x87 y98 x88).bind fun y100 => (pur (IntKind.i64.wrap ((2 : Int) * x64)) fun y111 => (pur (IntKind.i64.wrap (x88 + y111)) fun y113 => some (.inl (y100, x88, y113)))))) else some (.inr (x86, x87)))
noncomputable def slices_stableCmpFunc_api_Label__label_Sort_1.b3 (a1 : Int) (x63 : List api_Label) (x64 : Int) : Option (((List api_Label) × Int) ⊕ ((List api_Label))) :=
  (bif (decide (x64 < a1)) then (pur (IntKind.i64.wrap ((2 : Int) * x64)) fun y74 => ((iter (fun s : (List api_Label) × Int × Int => slices_stableCmpFunc_api_Label__label_Sort_1.b5 a1 x64 s.1 s.2.1 s.2.2) (x63, (0 : Int), y74)).bind fun o76 => ((pur (IntKind.i64.wrap (o76.2 + x64)) fun y127 => (bif (decide (y127 < a1)) then ((slices_symMergeCmpFunc_api_Label__label_Sort_1 64 o76.1 o76.2 y127 a1).bind fun y132 => some y132) else some o76.1)).bind fun o121 => (pur (IntKind.i64.wrap (x64 * (2 : Int))) fun y146 => some (.inl (o121, y146)))))) else some (.inr x63))
noncomputable def slices_stableCmpFunc_api_Label__label_Sort_1 (a0 : List api_Label) (a1 : Int) : Option (List api_Label) :=
  ((iter (fun s : (List api_Label) × Int × Int => slices_stableCmpFunc_api_Label__label_Sort_1.b2 a1 s.1 s.2.1 s.2.2) (a0, (0 : Int), (20 : Int))).bind fun o5 => ((slices_insertionSortCmpFunc_api_Label__label_Sort_1 o5.1 o5.2 a1).bind fun y48 => (iter (fun s : (List api_Label) × Int => slices_stableCmpFunc_api_Label__label_Sort_1.b3 a1 s.1 s.2) (y48, (20 : Int)))))
set_option maxRecDepth 100000 in
set_option maxHeartbeats 4000000 in
theorem slices_stableCmpFunc_api_Label__label_Sort_1_w {S : Nat → Prop} {w : World} {a0 : List api_Label} {a1 : Int} {v0 : Value} {base0 : Nat} {r : (List api_Label)} (hS : Sb S w) (h0 : Ow api_Label.k 46 S base0 w v0 a0) (h : slices_stableCmpFunc_api_Label__label_Sort_1 a0 a1 = some r) :
    Calls Tryz.prog 120 (List.toArray [v0, .int .i64 a1, .func (.func 91) #[] #[]]) w fun e w1 => ∃ S1, e = .returned (.tuple (List.toArray [])) ∧ Cx (Blk v0) S w S1 w1 ∧ Ow api_Label.k 46 S1 base0 w1 v0 r := by
  refine enter Tryz.func120 rfl (by kernel_rfl) rfl ?_
  have C := Cx.refl (F := (Blk v0)) hS
  unfold slices_stableCmpFunc_api_Label__label_Sort_1 at h
  refine cw_seq fun K1 k2 => ?_
  refine cw_region (sv (asv (.int .i64 20) rfl) (W.e (k2 _ _ ?_)))
  refine cw_seq fun K3 k4 => ?_
  refine cw_region (sv (mvv (.int .i64 20) rfl) (sv (asv (.int .i64 0) rfl) (sv (asv (.int .i64 20) rfl) (W.e (k4 _ _ ?_)))))
  obtain ⟨o5, h8, h⟩ := bnd_some h
  refine cw_seq' (fun ρ w1 => ∃ S1, Cx (Blk v0) S w S1 w1 ∧ Has ρ [(0, v0), (1, .int .i64 a1), (2, .func (.func 91) #[] #[]), (6, .int .i64 20), (7, .int .i64 o5.2)] ∧ Ow api_Label.k 46 S1 base0 w1 v0 o5.1) ?_ ?_
  · refine cw_block ?_
    refine cw_iter h8 (fun s ρ w1 => ∃ S1, Cx (Blk v0) S w S1 w1 ∧ Has ρ [(0, v0), (1, .int .i64 a1), (2, .func (.func 91) #[] #[]), (6, .int .i64 20), (7, .int .i64 s.2.1), (8, .int .i64 s.2.2)] ∧ Ow api_Label.k 46 S1 base0 w1 v0 s.1) ⟨_, C, ⟨rfl, rfl, rfl, rfl, rfl, rfl, trivial⟩, h0⟩ ?_
    rintro ⟨x15, x16, x17⟩ q9 ρ w11 ⟨S10, C, h14, h13⟩ h19 h18
    refine h14.cw fun ρ => ?_
    clear h14
    replace h19 : slices_stableCmpFunc_api_Label__label_Sort_1.b2 a1 x15 x16 x17 = some q9 := h19
    unfold slices_stableCmpFunc_api_Label__label_Sort_1.b2 at h19
    refine cw_seq fun K20 k21 => ?_
    refine cw_seq fun K22 k23 => ?_
    refine cw_region (sv (mvv (.int .i64 x17) rfl) (sv (mvv (.int .i64 a1) rfl) (sv (rv_leq rfl rfl) (W.e (k23 _ _ ?_)))))
    rcases bif_some h19 with ⟨b24, h19⟩ | ⟨b24, h19⟩
    · refine cw_t rfl b24 (cw_skip (k21 _ _ (cw_block ?_)))
      refine cw_seq fun K25 k26 => ?_
      refine cw_region (sv (mvv v0 rfl) (sv (mvv (.int .i64 x16) rfl) (sv (mvv (.int .i64 x17) rfl) (sv (mvv (.func (.func 91) #[] #[]) rfl) ?_))))
      obtain ⟨y27, h28, h19⟩ := bnd_some h19
      refine sc (dc_call (vs := [v0, .int .i64 x16, .int .i64 x17, .func (.func 91) #[] #[]]) can137 rfl ?_)
      refine (slices_insertionSortCmpFunc_api_Label__label_Sort_1_w C.sb h13 h28).mono ?_
      rintro _ w29 ⟨S34, rfl, c35, h31⟩
      refine ⟨_, rfl, ?_⟩
      replace C := C.ofc c35 (fun b hb => .inl hb)
      refine W.e (k26 _ _ ?_)
      refine cw_seq fun K36 k37 => ?_
      refine cw_region (sv (mvv (.int .i64 x17) rfl) (sv (asv (.int .i64 x17) rfl) (W.e (k37 _ _ (cw_region (sv (mvv (.int .i64 x17) rfl) (sv (mvv (.int .i64 20) rfl) ?_)))))))
      obtain ⟨y38, h39, h19⟩ := pur_some h19
      refine sv (rv_add rfl rfl h39) (sv (asv (.int .i64 y38) rfl) (W.e ?_))
      obtain rfl := Option.some.inj h19
      exact ⟨_, rfl, ⟨_, C, ⟨rfl, rfl, rfl, rfl, rfl, rfl, trivial⟩, h31⟩⟩
    · refine cw_f rfl b24 (cw_exit ?_)
      obtain rfl := Option.some.inj h19
      have h40 := congrArg some h18
      obtain rfl := Option.some.inj h40
      exact ⟨_, C, ⟨rfl, rfl, rfl, rfl, rfl, trivial⟩, h13⟩
  · rintro ρ w42 ⟨S41, C, h45, h44⟩
    refine h45.cw fun ρ => ?_
    clear h45
    refine cw_seq fun K46 k47 => ?_
    refine cw_region (sv (mvv v0 rfl) (sv (mvv (.int .i64 o5.2) rfl) (sv (mvv (.int .i64 a1) rfl) (sv (mvv (.func (.func 91) #[] #[]) rfl) ?_))))
    obtain ⟨y48, h49, h⟩ := bnd_some h
    refine sc (dc_call (vs := [v0, .int .i64 o5.2, .int .i64 a1, .func (.func 91) #[] #[]]) can137 rfl ?_)
    refine (slices_insertionSortCmpFunc_api_Label__label_Sort_1_w C.sb h44 h49).mono ?_
    rintro _ w50 ⟨S55, rfl, c56, h52⟩
    refine ⟨_, rfl, ?_⟩
    replace C := C.ofc c56 (fun b hb => .inl hb)
    refine W.e (k47 _ _ (cw_block ?_))
    refine cw_iter h (fun s ρ w1 => ∃ S1, Cx (Blk v0) S w S1 w1 ∧ Has ρ [(0, v0), (1, .int .i64 a1), (2, .func (.func 91) #[] #[]), (6, .int .i64 s.2)] ∧ Ow api_Label.k 46 S1 base0 w1 v0 s.1) ⟨_, C, ⟨rfl, rfl, rfl, rfl, trivial⟩, h52⟩ ?_
    rintro ⟨x63, x64⟩ q57 ρ w59 ⟨S58, C, h62, h61⟩ h66 h65
    refine h62.cw fun ρ => ?_
    clear h62
    replace h66 : slices_stableCmpFunc_api_Label__label_Sort_1.b3 a1 x63 x64 = some q57 := h66
    unfold slices_stableCmpFunc_api_Label__label_Sort_1.b3 at h66
    refine cw_seq fun K67 k68 => ?_
    refine cw_seq fun K69 k70 => ?_
    refine cw_region (sv (mvv (.int .i64 x64) rfl) (sv (mvv (.int .i64 a1) rfl) (sv (rv_lss rfl rfl) (W.e (k70 _ _ ?_)))))
    rcases bif_some h66 with ⟨b71, h66⟩ | ⟨b71, h66⟩
    · refine cw_t rfl b71 (cw_skip (k68 _ _ (cw_block ?_)))
      refine cw_seq fun K72 k73 => ?_
      refine cw_region (sv (mvv (.int .i64 x64) rfl) ?_)
      obtain ⟨y74, h75, h66⟩ := pur_some h66
      refine sv (rv_mul rfl rfl h75) (sv (asv (.int .i64 0) rfl) (sv (asv (.int .i64 y74) rfl) (W.e (k73 _ _ ?_))))
      obtain ⟨o76, h79, h66⟩ := bnd_some h66
      refine cw_seq' (fun ρ w1 => ∃ S1, Cx (Blk v0) S w S1 w1 ∧ Has ρ [(0, v0), (1, .int .i64 a1), (2, .func (.func 91) #[] #[]), (6, .int .i64 x64), (7, .int .i64 o76.2)] ∧ Ow api_Label.k 46 S1 base0 w1 v0 o76.1) ?_ ?_
      · refine cw_block ?_
        refine cw_iter h79 (fun s ρ w1 => ∃ S1, Cx (Blk v0) S w S1 w1 ∧ Has ρ [(0, v0), (1, .int .i64 a1), (2, .func (.func 91) #[] #[]), (6, .int .i64 x64), (7, .int .i64 s.2.1), (8, .int .i64 s.2.2)] ∧ Ow api_Label.k 46 S1 base0 w1 v0 s.1) ⟨_, C, ⟨rfl, rfl, rfl, rfl, rfl, rfl, trivial⟩, h61⟩ ?_
        rintro ⟨x86, x87, x88⟩ q80 ρ w82 ⟨S81, C, h85, h84⟩ h90 h89
        refine h85.cw fun ρ => ?_
        clear h85
        replace h90 : slices_stableCmpFunc_api_Label__label_Sort_1.b5 a1 x64 x86 x87 x88 = some q80 := h90
        unfold slices_stableCmpFunc_api_Label__label_Sort_1.b5 at h90
        refine cw_seq fun K91 k92 => ?_
        refine cw_seq fun K93 k94 => ?_
        refine cw_region (sv (mvv (.int .i64 x88) rfl) (sv (mvv (.int .i64 a1) rfl) (sv (rv_leq rfl rfl) (W.e (k94 _ _ ?_)))))
        rcases bif_some h90 with ⟨b95, h90⟩ | ⟨b95, h90⟩
        · refine cw_t rfl b95 (cw_skip (k92 _ _ (cw_block ?_)))
          refine cw_seq fun K96 k97 => ?_
          refine cw_region (sv (mvv v0 rfl) (sv (mvv (.int .i64 x87) rfl) (sv (mvv (.int .i64 x87) rfl) (sv (mvv (.int .i64 x64) rfl) ?_))))
          obtain ⟨y98, h99, h90⟩ := pur_some h90
          refine sv (rv_add rfl rfl h99) (sv (mvv (.int .i64 x88) rfl) (sv (mvv (.func (.func 91) #[] #[]) rfl) ?_))
          obtain ⟨y100, h101, h90⟩ := bnd_some h90
          refine sc (dc_call (vs := [v0, .int .i64 x87, .int .i64 y98, .int .i64 x88, .func (.func 91) #[] #[]]) can138 rfl ?_)
          refine (slices_symMergeCmpFunc_api_Label__label_Sort_1_w 64 C.sb h84 h101).mono ?_
          rintro _ w102 ⟨S107, rfl, c108, h104⟩
          refine ⟨_, rfl, ?_⟩
          replace C := C.ofc c108 (fun b hb => .inl hb)
          refine W.e (k97 _ _ ?_)
          refine cw_seq fun K109 k110 => ?_
          refine cw_region (sv (mvv (.int .i64 x88) rfl) (sv (asv (.int .i64 x88) rfl) (W.e (k110 _ _ (cw_region (sv (mvv (.int .i64 x88) rfl) (sv (mvv (.int .i64 x64) rfl) ?_)))))))
          obtain ⟨y111, h112, h90⟩ := pur_some h90
          refine sv (rv_mul rfl rfl h112) ?_
          obtain ⟨y113, h114, h90⟩ := pur_some h90
          refine sv (rv_add rfl rfl h114) (sv (asv (.int .i64 y113) rfl) (W.e ?_))
          obtain rfl := Option.some.inj h90
          exact ⟨_, rfl, ⟨_, C, ⟨rfl, rfl, rfl, rfl, rfl, rfl, trivial⟩, h104⟩⟩
        · refine cw_f rfl b95 (cw_exit ?_)
          obtain rfl := Option.some.inj h90
          have h115 := congrArg some h89
          obtain rfl := Option.some.inj h115
          exact ⟨_, C, ⟨rfl, rfl, rfl, rfl, rfl, trivial⟩, h84⟩
      · rintro ρ w117 ⟨S116, C, h120, h119⟩
        refine h120.cw fun ρ => ?_
        clear h120
        obtain ⟨o121, h124, h66⟩ := bnd_some h66
        refine cw_seq' (fun ρ w1 => ∃ S1, Cx (Blk v0) S w S1 w1 ∧ Has ρ [(0, v0), (1, .int .i64 a1), (2, .func (.func 91) #[] #[]), (6, .int .i64 x64)] ∧ Ow api_Label.k 46 S1 base0 w1 v0 o121) ?_ ?_
        · refine cw_seq fun K125 k126 => ?_
          refine cw_region (sv (mvv (.int .i64 o76.2) rfl) (sv (mvv (.int .i64 x64) rfl) ?_))
          obtain ⟨y127, h128, h124⟩ := pur_some h124
          refine sv (rv_add rfl rfl h128) (sv (asv (.int .i64 y127) rfl) (W.e (k126 _ _ ?_)))
          refine cw_seq fun K129 k130 => ?_
          refine cw_region (sv (mvv (.int .i64 y127) rfl) (sv (mvv (.int .i64 a1) rfl) (sv (rv_lss rfl rfl) (W.e (k130 _ _ ?_)))))
          rcases bif_some h124 with ⟨b131, h124⟩ | ⟨b131, h124⟩
          · refine cw_t rfl b131 (cw_region (sv (mvv v0 rfl) (sv (mvv (.int .i64 o76.2) rfl) (sv (mvv (.int .i64 y127) rfl) (sv (mvv (.int .i64 a1) rfl) (sv (mvv (.func (.func 91) #[] #[]) rfl) ?_))))))
            obtain ⟨y132, h133, h124⟩ := bnd_some h124
            refine sc (dc_call (vs := [v0, .int .i64 o76.2, .int .i64 y127, .int .i64 a1, .func (.func 91) #[] #[]]) can138 rfl ?_)
            refine (slices_symMergeCmpFunc_api_Label__label_Sort_1_w 64 C.sb h119 h133).mono ?_
            rintro _ w134 ⟨S139, rfl, c140, h136⟩
            refine ⟨_, rfl, ?_⟩
            replace C := C.ofc c140 (fun b hb => .inl hb)
            refine W.e ?_
            obtain rfl := Option.some.inj h124
            exact ⟨_, C, ⟨rfl, rfl, rfl, rfl, trivial⟩, h136⟩
          · refine cw_f rfl b131 (cw_skip ?_)
            obtain rfl := Option.some.inj h124
            exact ⟨_, C, ⟨rfl, rfl, rfl, rfl, trivial⟩, h119⟩
        · rintro ρ w142 ⟨S141, C, h145, h144⟩
          refine h145.cw fun ρ => ?_
          clear h145
          refine cw_region (sv (mvv (.int .i64 x64) rfl) ?_)
          obtain ⟨y146, h147, h66⟩ := pur_some h66
          refine sv (rv_mul rfl rfl h147) (sv (asv (.int .i64 y146) rfl) (W.e ?_))
          obtain rfl := Option.some.inj h66
          exact ⟨_, rfl, ⟨_, C, ⟨rfl, rfl, rfl, rfl, trivial⟩, h144⟩⟩
    · refine cw_f rfl b71 (cw_exit ?_)
      obtain rfl := Option.some.inj h66
      have h148 := congrArg some h65
      obtain rfl := Option.some.inj h148
      exact ⟨_, rfl, _, rfl, C, h61⟩

noncomputable def slices_SortStableFunc_api_Label_api_Label__label_Sort_1 (a0 : List api_Label) : Option (List api_Label) :=
  ((slices_stableCmpFunc_api_Label__label_Sort_1 a0 (a0.length : Int)).bind fun y1 => some y1)
set_option maxRecDepth 100000 in
set_option maxHeartbeats 4000000 in
theorem slices_SortStableFunc_api_Label_api_Label__label_Sort_1_w {S : Nat → Prop} {w : World} {a0 : List api_Label} {v0 : Value} {base0 : Nat} {r : (List api_Label)} (hS : Sb S w) (h0 : Ow api_Label.k 46 S base0 w v0 a0) (h : slices_SortStableFunc_api_Label_api_Label__label_Sort_1 a0 = some r) :
    Calls Tryz.prog 90 (List.toArray [v0, .func (.func 91) #[] #[]]) w fun e w1 => ∃ S1, e = .returned (.tuple (List.toArray [])) ∧ Cx (Blk v0) S w S1 w1 ∧ Ow api_Label.k 46 S1 base0 w1 v0 r := by
  refine enter Tryz.func90 rfl (by kernel_rfl) rfl ?_
  have C := Cx.refl (F := (Blk v0)) hS
  unfold slices_SortStableFunc_api_Label_api_Label__label_Sort_1 at h
  refine cw_region (sv (mvv v0 rfl) (sv (mvv v0 rfl) (sv (rv_lenS el31 h0.sealed rfl) (sv (mvv (.func (.func 91) #[] #[]) rfl) ?_))))
  obtain ⟨y1, h2, h⟩ := bnd_some h
  refine sc (dc_call (vs := [v0, .int .i64 (a0.length : Int), .func (.func 91) #[] #[]]) can120 rfl ?_)
  refine (slices_stableCmpFunc_api_Label__label_Sort_1_w C.sb h0 h2).mono ?_
  rintro _ w3 ⟨S8, rfl, c9, h5⟩
  refine ⟨_, rfl, ?_⟩
  replace C := C.ofc c9 (fun b hb => .inl hb)
  refine W.e ?_
  obtain rfl := Option.some.inj h
  exact ⟨_, rfl, _, rfl, C, h5⟩

noncomputable def label_within_string (a0 : ByteArray) (a1 : Int) : Option Bool :=
  ((bif (decide ((1 : Int) ≤ (a0.size : Int))) then some (decide ((a0.size : Int) ≤ a1)) else some false).bind fun o3 => some o3)
set_option maxRecDepth 100000 in
set_option maxHeartbeats 4000000 in
theorem label_within_string_w {S : Nat → Prop} {w : World} {a0 : ByteArray} {a1 : Int} {r : Bool} (hS : Sb S w)  (h : label_within_string a0 a1 = some r) :
    Calls Tryz.prog 88 (List.toArray [.string a0, .int .i64 a1]) w fun e w1 => ∃ S1, e = .returned (.bool r) ∧ Cx No S w S1 w1 := by
  refine enter Tryz.func88 rfl (by kernel_rfl) rfl ?_
  have C := Cx.refl (F := No) hS
  unfold label_within_string at h
  refine cw_seq fun K1 k2 => ?_
  refine cw_region (sv (asv (.bool false) rfl) (W.e (k2 _ _ ?_)))
  obtain ⟨o3, h6, h⟩ := bnd_some h
  refine cw_seq' (fun ρ w1 => ∃ S1, Cx No S w S1 w1 ∧ Has ρ [(4, .bool o3)]) ?_ ?_
  · refine cw_region (sv (mvv (.string a0) rfl) (sv (rv_slen Tryz.underlying9 rfl) (sv (rv_geq rfl rfl) (sv (mvv (.bool (decide ((1 : Int) ≤ (a0.size : Int)))) rfl) ?_))))
    rcases bif_some h6 with ⟨b7, h6⟩ | ⟨b7, h6⟩
    · refine W.v (gy rfl rfl rfl b7) (mvv (.string a0) rfl) (W.v (gy rfl rfl rfl b7) (rv_slen Tryz.underlying9 rfl) (W.v (gy rfl rfl rfl b7) (mvv (.int .i64 a1) rfl) (W.v (gy rfl rfl rfl b7) (rv_leq rfl rfl) (sv (ptk (.bool (decide ((a0.size : Int) ≤ a1))) rfl b7 rfl) (sv (asv (.bool (decide ((a0.size : Int) ≤ a1))) rfl) (W.e ?_))))))
      obtain rfl := Option.some.inj h6
      exact ⟨_, C, ⟨rfl, trivial⟩⟩
    · refine W.n (gn rfl rfl rfl b7) (W.n (gn rfl rfl rfl b7) (W.n (gn rfl rfl rfl b7) (W.n (gn rfl rfl rfl b7) (sv (pfk (.bool false) rfl b7 rfl) (sv (asv (.bool false) rfl) (W.e ?_))))))
      obtain rfl := Option.some.inj h6
      exact ⟨_, C, ⟨rfl, trivial⟩⟩
  · rintro ρ w9 ⟨S8, C, h10⟩
    refine h10.cw fun ρ => ?_
    clear h10
    refine cw_ret ?_
    obtain rfl := Option.some.inj h
    exact ⟨_, rfl, _, rfl, C⟩

noncomputable def label_Name_1 (a0 : Int) : Option Bool :=
  ((bif (decide (a0 < (97 : Int))) then (bif (decide (a0 < (48 : Int))) then some (a0 != (95 : Int)) else (bif (decide ((57 : Int) < a0)) then some (a0 != (95 : Int)) else some false)) else (bif (decide ((122 : Int) < a0)) then (bif (decide (a0 < (48 : Int))) then some (a0 != (95 : Int)) else (bif (decide ((57 : Int) < a0)) then some (a0 != (95 : Int)) else some false)) else some false)).bind fun o3 => some o3)
set_option maxRecDepth 100000 in
set_option maxHeartbeats 4000000 in
theorem label_Name_1_w {S : Nat → Prop} {w : World} {a0 : Int} {r : Bool} (hS : Sb S w)  (h : label_Name_1 a0 = some r) :
    Calls Tryz.prog 119 (List.toArray [.int .i32 a0]) w fun e w1 => ∃ S1, e = .returned (.bool r) ∧ Cx No S w S1 w1 := by
  refine enter Tryz.func119 rfl (by kernel_rfl) rfl ?_
  have C := Cx.refl (F := No) hS
  unfold label_Name_1 at h
  refine cw_seq fun K1 k2 => ?_
  refine cw_region (sv (asv (.bool false) rfl) (W.e (k2 _ _ ?_)))
  obtain ⟨o3, h6, h⟩ := bnd_some h
  refine cw_seq' (fun ρ w1 => ∃ S1, Cx No S w S1 w1 ∧ Has ρ [(2, .bool o3)]) ?_ ?_
  · refine cw_region (sv (mvv (.int .i32 a0) rfl) (sv (rv_lss rfl rfl) (sv (mvv (.bool (decide (a0 < (97 : Int)))) rfl) ?_)))
    rcases bif_some h6 with ⟨b7, h6⟩ | ⟨b7, h6⟩
    · refine W.n (gn rfl rfl rfl b7) (W.n (gn rfl rfl rfl b7) (sv (ptk (.bool true) rfl b7 rfl) (sv (mvv (.bool true) rfl) (W.v (gy rfl rfl rfl rfl) (mvv (.int .i32 a0) rfl) (W.v (gy rfl rfl rfl rfl) (rv_lss rfl rfl) (W.v (gy rfl rfl rfl rfl) (mvv (.bool (decide (a0 < (48 : Int)))) rfl) ?_))))))
      rcases bif_some h6 with ⟨b8, h6⟩ | ⟨b8, h6⟩
      · refine W.n (gn rfl rfl rfl b8) (W.n (gn rfl rfl rfl b8) (W.v (gy rfl rfl rfl rfl) (ptk (.bool true) rfl b8 rfl) (sv (ptk (.bool true) rfl rfl rfl) (sv (mvv (.bool true) rfl) (W.v (gy rfl rfl rfl rfl) (mvv (.int .i32 a0) rfl) (W.v (gy rfl rfl rfl rfl) (rv_neq rfl rfl) (sv (ptk (.bool (a0 != (95 : Int))) rfl rfl rfl) (sv (asv (.bool (a0 != (95 : Int))) rfl) (W.e ?_)))))))))
        obtain rfl := Option.some.inj h6
        exact ⟨_, C, ⟨rfl, trivial⟩⟩
      · refine W.v (gy rfl rfl rfl b8) (mvv (.int .i32 a0) rfl) (W.v (gy rfl rfl rfl b8) (rv_gtr rfl rfl) (W.v (gy rfl rfl rfl rfl) (pfk (.bool (decide ((57 : Int) < a0))) rfl b8 rfl) (sv (ptk (.bool (decide ((57 : Int) < a0))) rfl rfl rfl) (sv (mvv (.bool (decide ((57 : Int) < a0))) rfl) ?_))))
        rcases bif_some h6 with ⟨b9, h6⟩ | ⟨b9, h6⟩
        · refine W.v (gy rfl rfl rfl b9) (mvv (.int .i32 a0) rfl) (W.v (gy rfl rfl rfl b9) (rv_neq rfl rfl) (sv (ptk (.bool (a0 != (95 : Int))) rfl b9 rfl) (sv (asv (.bool (a0 != (95 : Int))) rfl) (W.e ?_))))
          obtain rfl := Option.some.inj h6
          exact ⟨_, C, ⟨rfl, trivial⟩⟩
        · refine W.n (gn rfl rfl rfl b9) (W.n (gn rfl rfl rfl b9) (sv (pfk (.bool false) rfl b9 rfl) (sv (asv (.bool false) rfl) (W.e ?_))))
          obtain rfl := Option.some.inj h6
          exact ⟨_, C, ⟨rfl, trivial⟩⟩
    · refine W.v (gy rfl rfl rfl b7) (mvv (.int .i32 a0) rfl) (W.v (gy rfl rfl rfl b7) (rv_gtr rfl rfl) (sv (pfk (.bool (decide ((122 : Int) < a0))) rfl b7 rfl) (sv (mvv (.bool (decide ((122 : Int) < a0))) rfl) ?_)))
      rcases bif_some h6 with ⟨b10, h6⟩ | ⟨b10, h6⟩
      · refine W.v (gy rfl rfl rfl b10) (mvv (.int .i32 a0) rfl) (W.v (gy rfl rfl rfl b10) (rv_lss rfl rfl) (W.v (gy rfl rfl rfl b10) (mvv (.bool (decide (a0 < (48 : Int)))) rfl) ?_))
        rcases bif_some h6 with ⟨b11, h6⟩ | ⟨b11, h6⟩
        · refine W.n (gn rfl rfl rfl b11) (W.n (gn rfl rfl rfl b11) (W.v (gy rfl rfl rfl b10) (ptk (.bool true) rfl b11 rfl) (sv (ptk (.bool true) rfl b10 rfl) (sv (mvv (.bool true) rfl) (W.v (gy rfl rfl rfl rfl) (mvv (.int .i32 a0) rfl) (W.v (gy rfl rfl rfl rfl) (rv_neq rfl rfl) (sv (ptk (.bool (a0 != (95 : Int))) rfl rfl rfl) (sv (asv (.bool (a0 != (95 : Int))) rfl) (W.e ?_)))))))))
          obtain rfl := Option.some.inj h6
          exact ⟨_, C, ⟨rfl, trivial⟩⟩
        · refine W.v (gy rfl rfl rfl b11) (mvv (.int .i32 a0) rfl) (W.v (gy rfl rfl rfl b11) (rv_gtr rfl rfl) (W.v (gy rfl rfl rfl b10) (pfk (.bool (decide ((57 : Int) < a0))) rfl b11 rfl) (sv (ptk (.bool (decide ((57 : Int) < a0))) rfl b10 rfl) (sv (mvv (.bool (decide ((57 : Int) < a0))) rfl) ?_))))
          rcases bif_some h6 with ⟨b12, h6⟩ | ⟨b12, h6⟩
          · refine W.v (gy rfl rfl rfl b12) (mvv (.int .i32 a0) rfl) (W.v (gy rfl rfl rfl b12) (rv_neq rfl rfl) (sv (ptk (.bool (a0 != (95 : Int))) rfl b12 rfl) (sv (asv (.bool (a0 != (95 : Int))) rfl) (W.e ?_))))
            obtain rfl := Option.some.inj h6
            exact ⟨_, C, ⟨rfl, trivial⟩⟩
          · refine W.n (gn rfl rfl rfl b12) (W.n (gn rfl rfl rfl b12) (sv (pfk (.bool false) rfl b12 rfl) (sv (asv (.bool false) rfl) (W.e ?_))))
            obtain rfl := Option.some.inj h6
            exact ⟨_, C, ⟨rfl, trivial⟩⟩
      · refine W.n (gn rfl rfl rfl b10) (W.n (gn rfl rfl rfl b10) (W.n (gn rfl rfl rfl b10) (W.n (gu rfl rfl rfl) (W.n (gu rfl rfl rfl) (W.n (gn rfl rfl rfl b10) (sv (pfk (.bool false) rfl b10 rfl) (sv (mvv (.bool false) rfl) (W.n (gn rfl rfl rfl rfl) (W.n (gn rfl rfl rfl rfl) (sv (pfk (.bool false) rfl rfl rfl) (sv (asv (.bool false) rfl) ?_)))))))))))
        refine W.e ?_
        obtain rfl := Option.some.inj h6
        exact ⟨_, C, ⟨rfl, trivial⟩⟩
  · rintro ρ w14 ⟨S13, C, h15⟩
    refine h15.cw fun ρ => ?_
    clear h15
    refine cw_ret ?_
    obtain rfl := Option.some.inj h
    exact ⟨_, rfl, _, rfl, C⟩

noncomputable def strings_indexFunc__label_Name_1 (a0 : ByteArray) (a2 : Bool) : Option Int := sidx_ label_Name_1 a0 a2
set_option maxRecDepth 100000 in
set_option maxHeartbeats 4000000 in
theorem strings_indexFunc__label_Name_1_w {S : Nat → Prop} {w : World} {a0 : ByteArray} {a2 : Bool} {r : Int} (hS : Sb S w) (h : strings_indexFunc__label_Name_1 a0 a2 = some r) :
    Calls Tryz.prog 141 (List.toArray [.string a0, .func (.func 119) #[] #[], .bool a2]) w fun e w1 => ∃ S1, e = .returned (.int .i64 r) ∧ Cx No S w S1 w1 := by
  refine enter Tryz.func141 rfl (by kernel_rfl) rfl ?_
  have C := Cx.refl (F := No) hS
  unfold strings_indexFunc__label_Name_1 sidx_ at h
  refine cw_seq fun K0 k0 => ?_
  refine cw_region (sv (asv (.int .i64 0) rfl) (W.e (k0 _ _ ?_)))
  refine cw_seq' (fun ρ w2 => ∃ S2, r = -1 ∧ Cx No S w S2 w2) ?_ ?_
  · refine cw_seq fun K1 k1 => ?_
    refine cw_region (sv (mvv (.string a0) rfl) (sc (dc_srange Tryz.underlying9 rfl fun rb w1 hb hI up => ?_)))
    replace C := C.new up
    have hrS : ¬ S rb := fun hs => by have := hS rb hs; omega
    have hrw : w.heap.size ≤ rb := hb
    refine W.e (k1 _ _ ?_)
    refine cw_block (cw_loop (fun n ρ w2 => ∃ S2 pos, Cx No S w S2 w2 ∧ Has ρ [(1, .func (.func 119) #[] #[]), (2, .bool a2), (10, .pointer (some ⟨rb, 0, none⟩))] ∧ SIt w2 rb a0 pos ∧ ¬ S2 rb ∧ sidxF label_Name_1 a0 a2 n pos = some r) _ ⟨S, 0, C, ⟨rfl, rfl, rfl, trivial⟩, hI, hrS, h⟩ ?_)
    clear C hI h
    rintro n ρ w2 ⟨S2, pos, C, hh, hI, hrS2, h⟩
    refine hh.cw fun ρ => ?_
    clear hh
    refine cw_seq fun K2 k2 => ?_
    refine cw_region (sc (dc_snext hI rfl ?_ ?_))
    · intro hp
      refine sv (rv_extract rfl rfl) (W.e (k2 _ _ (cw_seq fun K3 k3 => cw_f rfl rfl (cw_exit ?_))))
      refine ⟨S2, ?_, C⟩
      cases n <;> (unfold sidxF at h; rw [if_neg hp] at h; exact (Option.some.inj h).symm)
    · intro w3 hp hI3 up3
      refine sv (rv_extract rfl rfl) (W.e (k2 _ _ (cw_seq fun K3 k3 => cw_t rfl rfl (cw_skip (k3 _ _ ?_)))))
      cases n with
      | zero => unfold sidxF at h; rw [if_pos hp] at h; cases h
      | succ n =>
        unfold sidxF at h
        rw [if_pos hp] at h
        obtain ⟨b, hb2, h⟩ := bnd_some h
        replace C := C.ofp up3 (fun q hq => .inr (by have hq : q = rb := hq; omega))
        refine cw_block (cw_seq fun K4 k4 => cw_region (sv (rv_extract rfl rfl) (sv (rv_extract rfl rfl) (sv (asv (.int .i64 (pos : Nat)) rfl) (sv (asv (.int .i32 ((Utf8.decode a0 pos).1 : Nat)) rfl) (W.e (k4 _ _ ?_)))))))
        refine cw_seq fun K5 k5 => cw_region (sv (mvv (.func (.func 119) #[] #[]) rfl) (sv (mvv (.int .i32 ((Utf8.decode a0 pos).1 : Nat)) rfl) (sc (dc_callV rfl (vs := [.int .i32 ((Utf8.decode a0 pos).1 : Nat)]) can119 rfl ?_))))
        refine (label_Name_1_w C.sb hb2).mono ?_
        rintro _ w4 ⟨S3, rfl, c4⟩
        refine ⟨_, rfl, sv (mvv (.bool a2) rfl) (sv (rv_beql Tryz.underlying4 rfl rfl) (W.e (k5 _ _ ?_)))⟩
        have hI4 := hI3.to (c4.up.block rb hI3.lt fun h => h)
        have hrS3 : ¬ S3 rb := fun hs => (c4.ge.ge rb hs).elim hrS2 fun hl => by have := hI3.lt; omega
        replace C := C.trans c4
        cases hba : (b == a2) with
        | true =>
          rw [hba] at h
          refine cw_t rfl rfl ?_
          refine cw_seq fun K6 k6 => cw_region (sv (mvv (.int .i64 (pos : Nat)) rfl) (sv (asv (.int .i64 (pos : Nat)) rfl) (W.e (k6 _ _ (cw_ret ?_)))))
          obtain rfl := Option.some.inj h
          exact ⟨_, rfl, S3, rfl, C⟩
        | false =>
          rw [hba] at h
          refine cw_f rfl rfl (cw_skip ?_)
          exact ⟨_, Nat.lt_succ_self _, S3, _, C, ⟨rfl, rfl, rfl, trivial⟩, hI4, hrS3, h⟩
  · rintro ρ w2 ⟨S2, rfl, C⟩
    refine cw_seq fun K1 k1 => ?_
    refine cw_region (sv (asv (.int .i64 (-1)) rfl) (W.e (k1 _ _ (cw_ret ?_))))
    exact ⟨_, rfl, S2, rfl, C⟩

noncomputable def strings_IndexFunc__label_Name_1 (a0 : ByteArray) : Option Int :=
  ((strings_indexFunc__label_Name_1 a0 true).bind fun y5 => some y5)
set_option maxRecDepth 100000 in
set_option maxHeartbeats 4000000 in
theorem strings_IndexFunc__label_Name_1_w {S : Nat → Prop} {w : World} {a0 : ByteArray} {r : Int} (hS : Sb S w)  (h : strings_IndexFunc__label_Name_1 a0 = some r) :
    Calls Tryz.prog 136 (List.toArray [.string a0, .func (.func 119) #[] #[]]) w fun e w1 => ∃ S1, e = .returned (.int .i64 r) ∧ Cx No S w S1 w1 := by
  refine enter Tryz.func136 rfl (by kernel_rfl) rfl ?_
  have C := Cx.refl (F := No) hS
  unfold strings_IndexFunc__label_Name_1 at h
  refine cw_seq fun K1 k2 => ?_
  refine cw_region (sv (asv (.int .i64 0) rfl) (W.e (k2 _ _ ?_)))
  refine cw_seq fun K3 k4 => ?_
  refine cw_region (sv (mvv (.string a0) rfl) (sv (mvv (.func (.func 119) #[] #[]) rfl) ?_))
  obtain ⟨y5, h6, h⟩ := bnd_some h
  refine sc (dc_call (vs := [.string a0, .func (.func 119) #[] #[], .bool true]) can141 rfl ?_)
  refine (strings_indexFunc__label_Name_1_w C.sb  h6).mono ?_
  rintro _ w7 ⟨S8, rfl, c9⟩
  refine ⟨_, rfl, ?_⟩
  replace C := C.trans c9
  refine sv (asv (.int .i64 y5) rfl) (W.e (k4 _ _ (cw_ret ?_)))
  obtain rfl := Option.some.inj h
  exact ⟨_, rfl, _, rfl, C⟩

noncomputable def strings_ContainsFunc__label_Name_1 (a0 : ByteArray) : Option Bool :=
  ((strings_IndexFunc__label_Name_1 a0).bind fun y5 => some (decide ((0 : Int) ≤ y5)))
set_option maxRecDepth 100000 in
set_option maxHeartbeats 4000000 in
theorem strings_ContainsFunc__label_Name_1_w {S : Nat → Prop} {w : World} {a0 : ByteArray} {r : Bool} (hS : Sb S w)  (h : strings_ContainsFunc__label_Name_1 a0 = some r) :
    Calls Tryz.prog 118 (List.toArray [.string a0, .func (.func 119) #[] #[]]) w fun e w1 => ∃ S1, e = .returned (.bool r) ∧ Cx No S w S1 w1 := by
  refine enter Tryz.func118 rfl (by kernel_rfl) rfl ?_
  have C := Cx.refl (F := No) hS
  unfold strings_ContainsFunc__label_Name_1 at h
  refine cw_seq fun K1 k2 => ?_
  refine cw_region (sv (asv (.bool false) rfl) (W.e (k2 _ _ ?_)))
  refine cw_seq fun K3 k4 => ?_
  refine cw_region (sv (mvv (.string a0) rfl) (sv (mvv (.func (.func 119) #[] #[]) rfl) ?_))
  obtain ⟨y5, h6, h⟩ := bnd_some h
  refine sc (dc_call (vs := [.string a0, .func (.func 119) #[] #[]]) can136 rfl ?_)
  refine (strings_IndexFunc__label_Name_1_w C.sb  h6).mono ?_
  rintro _ w7 ⟨S8, rfl, c9⟩
  refine ⟨_, rfl, ?_⟩
  replace C := C.trans c9
  refine sv (rv_geq rfl rfl) (sv (asv (.bool (decide ((0 : Int) ≤ y5))) rfl) (W.e (k4 _ _ (cw_ret ?_))))
  obtain rfl := Option.some.inj h
  exact ⟨_, rfl, _, rfl, C⟩

noncomputable def label_Name (a0 : ByteArray) : Option Bool :=
  ((((label_within_string a0 (16 : Int)).bind fun y11 => (bif (!y11) then some true else ((sat_ a0 (0 : Int)).bind fun y17 => (bif (decide (y17 < (97 : Int))) then some true else ((sat_ a0 (0 : Int)).bind fun y20 => some (decide ((122 : Int) < y20))))))).bind fun o7 => (bif o7 then some (.inr false) else some (.inl ()))).bind (Sum.elim (fun o3n => ((strings_ContainsFunc__label_Name_1 a0).bind fun y33 => some (!y33))) (fun q => some q)))
set_option maxRecDepth 100000 in
set_option maxHeartbeats 4000000 in
theorem label_Name_w {S : Nat → Prop} {w : World} {a0 : ByteArray} {r : Bool} (hS : Sb S w)  (h : label_Name a0 = some r) :
    Calls Tryz.prog 87 (List.toArray [.string a0]) w fun e w1 => ∃ S1, e = .returned (.bool r) ∧ Cx No S w S1 w1 := by
  refine enter Tryz.func87 rfl (by kernel_rfl) rfl ?_
  have C := Cx.refl (F := No) hS
  unfold label_Name at h
  refine cw_seq fun K1 k2 => ?_
  refine cw_region (sv (asv (.bool false) rfl) (W.e (k2 _ _ ?_)))
  obtain ⟨o3, h6, h⟩ := bnds_some h
  refine cw_seq' (fun ρ w1 => ∃ o3n, o3 = (.inl o3n) ∧ ∃ S1, Cx No S w S1 w1 ∧ Has ρ [(0, .string a0)]) ?_ ?_
  · obtain ⟨o7, h10, h6⟩ := bnd_some h6
    refine cw_seq' (fun ρ w1 => ∃ S1, Cx No S w S1 w1 ∧ Has ρ [(0, .string a0), (15, .bool o7)]) ?_ ?_
    · refine cw_region (sv (mvv (.string a0) rfl) ?_)
      obtain ⟨y11, h12, h10⟩ := bnd_some h10
      refine sc (dc_call (vs := [.string a0, .int .i64 16]) can88 rfl ?_)
      refine (label_within_string_w C.sb  h12).mono ?_
      rintro _ w13 ⟨S14, rfl, c15⟩
      refine ⟨_, rfl, ?_⟩
      replace C := C.trans c15
      refine sv (rv_not rfl) (sv (mvv (.bool (!y11)) rfl) ?_)
      rcases bif_some h10 with ⟨b16, h10⟩ | ⟨b16, h10⟩
      · refine W.n (gn rfl rfl rfl b16) (W.n (gn rfl rfl rfl b16) (W.n (gn rfl rfl rfl b16) (sv (ptk (.bool true) rfl b16 rfl) (sv (mvv (.bool true) rfl) (W.n (gn rfl rfl rfl rfl) (W.n (gn rfl rfl rfl rfl) (W.n (gn rfl rfl rfl rfl) (sv (ptk (.bool true) rfl rfl rfl) (W.e ?_)))))))))
        obtain rfl := Option.some.inj h10
        exact ⟨_, C, ⟨rfl, rfl, trivial⟩⟩
      · refine W.v (gy rfl rfl rfl b16) (mvv (.string a0) rfl) ?_
        obtain ⟨y17, h18, h10⟩ := bnd_some h10
        refine W.v (gy rfl rfl rfl b16) (rv_sindex Tryz.underlying9 rfl rfl h18) (W.v (gy rfl rfl rfl b16) (rv_lss rfl rfl) (sv (pfk (.bool (decide (y17 < (97 : Int)))) rfl b16 rfl) (sv (mvv (.bool (decide (y17 < (97 : Int)))) rfl) ?_)))
        rcases bif_some h10 with ⟨b19, h10⟩ | ⟨b19, h10⟩
        · refine W.n (gn rfl rfl rfl b19) (W.n (gn rfl rfl rfl b19) (W.n (gn rfl rfl rfl b19) (sv (ptk (.bool true) rfl b19 rfl) (W.e ?_))))
          obtain rfl := Option.some.inj h10
          exact ⟨_, C, ⟨rfl, rfl, trivial⟩⟩
        · refine W.v (gy rfl rfl rfl b19) (mvv (.string a0) rfl) ?_
          obtain ⟨y20, h21, h10⟩ := bnd_some h10
          refine W.v (gy rfl rfl rfl b19) (rv_sindex Tryz.underlying9 rfl rfl h21) (W.v (gy rfl rfl rfl b19) (rv_gtr rfl rfl) (sv (pfk (.bool (decide ((122 : Int) < y20))) rfl b19 rfl) (W.e ?_)))
          obtain rfl := Option.some.inj h10
          exact ⟨_, C, ⟨rfl, rfl, trivial⟩⟩
    · rintro ρ w23 ⟨S22, C, h24⟩
      refine h24.cw fun ρ => ?_
      clear h24
      rcases bif_some h6 with ⟨b25, h6⟩ | ⟨b25, h6⟩
      · refine cw_t rfl b25 ?_
        refine cw_seq fun K26 k27 => ?_
        refine cw_region (sv (asv (.bool false) rfl) (W.e (k27 _ _ (cw_ret ?_))))
        obtain rfl := Option.some.inj h6
        replace h := h.2 _ rfl
        obtain rfl := Option.some.inj h
        exact ⟨_, rfl, _, rfl, C⟩
      · refine cw_f rfl b25 (cw_skip ?_)
        obtain rfl := Option.some.inj h6
        exact ⟨_, rfl, ⟨_, C, ⟨rfl, trivial⟩⟩⟩
  · rintro ρ w29 ⟨o3n, rfl, ⟨S28, C, h30⟩⟩
    replace h := h.1 _ rfl
    refine h30.cw fun ρ => ?_
    clear h30
    refine cw_seq fun K31 k32 => ?_
    refine cw_region (sv (mvv (.string a0) rfl) ?_)
    obtain ⟨y33, h34, h⟩ := bnd_some h
    refine sc (dc_call (vs := [.string a0, .func (.func 119) #[] #[]]) can118 rfl ?_)
    refine (strings_ContainsFunc__label_Name_1_w C.sb  h34).mono ?_
    rintro _ w35 ⟨S36, rfl, c37⟩
    refine ⟨_, rfl, ?_⟩
    replace C := C.trans c37
    refine sv (rv_not rfl) (sv (asv (.bool (!y33)) rfl) (W.e (k32 _ _ (cw_ret ?_))))
    obtain rfl := Option.some.inj h
    exact ⟨_, rfl, _, rfl, C⟩

noncomputable def label_within_api_Label (a0 : List api_Label) (a1 : Int) : Option Bool :=
  ((bif (decide ((1 : Int) ≤ (a0.length : Int))) then some (decide ((a0.length : Int) ≤ a1)) else some false).bind fun o3 => some o3)
set_option maxRecDepth 100000 in
set_option maxHeartbeats 4000000 in
theorem label_within_api_Label_w {S : Nat → Prop} {w : World} {a0 : List api_Label} {a1 : Int} {v0 : Value} {r : Bool} (hS : Sb S w) (h0 : Sl (kSl api_Label.k) S w v0 a0) (h : label_within_api_Label a0 a1 = some r) :
    Calls Tryz.prog 89 (List.toArray [v0, .int .i64 a1]) w fun e w1 => ∃ S1, e = .returned (.bool r) ∧ Cx No S w S1 w1 := by
  refine enter Tryz.func89 rfl (by kernel_rfl) rfl ?_
  have C := Cx.refl (F := No) hS
  unfold label_within_api_Label at h
  refine cw_seq fun K1 k2 => ?_
  refine cw_region (sv (asv (.bool false) rfl) (W.e (k2 _ _ ?_)))
  obtain ⟨o3, h6, h⟩ := bnd_some h
  refine cw_seq' (fun ρ w1 => ∃ S1, Cx No S w S1 w1 ∧ Has ρ [(4, .bool o3)]) ?_ ?_
  · refine cw_region (sv (mvv v0 rfl) (sv (rv_lenS el31 h0 rfl) (sv (rv_geq rfl rfl) (sv (mvv (.bool (decide ((1 : Int) ≤ (a0.length : Int)))) rfl) ?_))))
    rcases bif_some h6 with ⟨b7, h6⟩ | ⟨b7, h6⟩
    · refine W.v (gy rfl rfl rfl b7) (mvv v0 rfl) (W.v (gy rfl rfl rfl b7) (rv_lenS el31 h0 rfl) (W.v (gy rfl rfl rfl b7) (mvv (.int .i64 a1) rfl) (W.v (gy rfl rfl rfl b7) (rv_leq rfl rfl) (sv (ptk (.bool (decide ((a0.length : Int) ≤ a1))) rfl b7 rfl) (sv (asv (.bool (decide ((a0.length : Int) ≤ a1))) rfl) (W.e ?_))))))
      obtain rfl := Option.some.inj h6
      exact ⟨_, C, ⟨rfl, trivial⟩⟩
    · refine W.n (gn rfl rfl rfl b7) (W.n (gn rfl rfl rfl b7) (W.n (gn rfl rfl rfl b7) (W.n (gn rfl rfl rfl b7) (sv (pfk (.bool false) rfl b7 rfl) (sv (asv (.bool false) rfl) (W.e ?_))))))
      obtain rfl := Option.some.inj h6
      exact ⟨_, C, ⟨rfl, trivial⟩⟩
  · rintro ρ w9 ⟨S8, C, h10⟩
    refine h10.cw fun ρ => ?_
    clear h10
    refine cw_ret ?_
    obtain rfl := Option.some.inj h
    exact ⟨_, rfl, _, rfl, C⟩

noncomputable def label_Right.b2 (a0 : List api_Label) (x15 : ByteArray) (x16 : Int) : Option ((ByteArray × Int) ⊕ ((Unit) ⊕ (Bool))) :=
  (bif (decide (x16 < (a0.length : Int))) then (((at_ a0 x16).bind fun y30 => (pur y30 fun y40 => ((((label_Name y40.Name).bind fun y57 => (bif (!y57) then some true else ((label_within_string y40.Val (64 : Int)).bind fun y66 => (bif (!y66) then some true else some (strLt y40.Name x15 || strEq y40.Name x15))))).bind fun o50 => (bif o50 then some (.inr (.inr (.inr (.inr false)))) else some (.inl ()))).bind (Sum.elim (fun o46n => some (.inl y40.Name)) (fun q => some q))))).bind (Sum.elim (fun o24n => (pur (IntKind.i64.wrap (x16 + (1 : Int))) fun y91 => some (.inl (o24n, y91)))) (fun q => some q))) else some (.inr (.inl ())))
noncomputable def label_Right (a0 : List api_Label) : Option Bool :=
  ((iter (fun s : ByteArray × Int => label_Right.b2 a0 s.1 s.2) (ByteArray.empty, (0 : Int))).bind (Sum.elim (fun o5n => ((label_within_api_Label a0 (6 : Int)).bind fun y99 => some y99)) (fun q => some q)))
set_option maxRecDepth 100000 in
set_option maxHeartbeats 4000000 in
theorem label_Right_w {S : Nat → Prop} {w : World} {a0 : List api_Label} {v0 : Value} {r : Bool} (hS : Sb S w) (h0 : Sl (kSl api_Label.k) S w v0 a0) (h : label_Right a0 = some r) :
    Calls Tryz.prog 62 (List.toArray [v0]) w fun e w1 => ∃ S1, e = .returned (.bool r) ∧ Cx No S w S1 w1 := by
  refine enter Tryz.func62 rfl (by kernel_rfl) rfl ?_
  have C := Cx.refl (F := No) hS
  unfold label_Right at h
  refine cw_seq fun K1 k2 => ?_
  refine cw_region (sv (asv (.bool false) rfl) (W.e (k2 _ _ ?_)))
  refine cw_seq fun K3 k4 => ?_
  refine cw_region (sv (asv (.string ByteArray.empty) rfl) (W.e (k4 _ _ ?_)))
  obtain ⟨o5, h8, h⟩ := bnds_some h
  refine cw_seq' (fun ρ w1 => ∃ o5n, o5 = (.inl o5n) ∧ ∃ S1, Cx No S w S1 w1 ∧ Has ρ [(0, v0)] ∧ Sl (kSl api_Label.k) S1 w1 v0 a0) ?_ ?_
  · refine cw_seq fun K9 k10 => ?_
    refine cw_region (sv (mvv v0 rfl) (sv (rv_lenS el31 h0 rfl) (sv (mvv (.int .i64 0) rfl) (W.e (k10 _ _ (cw_block ?_))))))
    refine cw_iter h8 (fun s ρ w1 => ∃ S1, Cx No S w S1 w1 ∧ Has ρ [(0, v0), (3, .string s.1), (6, v0), (7, .int .i64 (a0.length : Int)), (8, .int .i64 s.2)] ∧ Sl (kSl api_Label.k) S1 w1 v0 a0) ⟨_, C, ⟨rfl, rfl, rfl, rfl, rfl, trivial⟩, h0⟩ ?_
    rintro ⟨x15, x16⟩ q11 ρ w13 ⟨S12, C, h14, h0⟩ h18 h17
    refine h14.cw fun ρ => ?_
    clear h14
    replace h18 : label_Right.b2 a0 x15 x16 = some q11 := h18
    unfold label_Right.b2 at h18
    refine cw_seq fun K19 k20 => ?_
    refine cw_region (sv (rv_lss rfl rfl) (W.e (k20 _ _ ?_)))
    refine cw_seq fun K21 k22 => ?_
    rcases bif_some h18 with ⟨b23, h18⟩ | ⟨b23, h18⟩
    · refine cw_t rfl b23 (cw_skip (k22 _ _ ?_))
      obtain ⟨o24, h27, h18⟩ := bnds_some h18
      refine cw_seq' (fun ρ w1 => ∃ o24n, o24 = (.inl o24n) ∧ ∃ S1, Cx No S w S1 w1 ∧ Has ρ [(0, v0), (3, .string o24n), (6, v0), (7, .int .i64 (a0.length : Int)), (8, .int .i64 x16)] ∧ Sl (kSl api_Label.k) S1 w1 v0 a0) ?_ ?_
      · refine cw_block ?_
        refine cw_seq fun K28 k29 => ?_
        refine cw_region ?_
        obtain ⟨y30, h31, h27⟩ := bnd_some h27
        refine sv (rv_index el31 h0 rfl rfl h31) ?_
        obtain ⟨v32, h33, h34⟩ := rw_loadA (P := Tryz.prog) el31 h0 h31
        obtain rfl := api_Label.o.1 h33
        refine sr (h34 _ (Sm.refl _ _) rfl) ?_
        refine sc (dc_allocO (x0 := (api_Label.mk ByteArray.empty ByteArray.empty)) (base := w.heap.size) el31 zr46 (fun _ => api_Label.r.2 rfl) C.up.size C.sb fun b35 w36 h37 h38 u39 => ?_)
        replace h0 := h0.nw u39
        replace C := C.new u39
        obtain ⟨y40, h41, h27⟩ := pur_some h27
        have h45 := h37
        refine sc (dc_storeO el31 h45 (show at_ [(api_Label.mk ByteArray.empty ByteArray.empty)] (0 : Int) = some (api_Label.mk ByteArray.empty ByteArray.empty) from rfl) rfl rfl (((api_Label.o (x := y30)).2 rfl)) fun w42 h43 u44 => ?_)
        replace h43 : Ow api_Label.k 46 S12 w.heap.size w42 (.slice (some ⟨b35, 0, none⟩) 1 1) [y30] := h43
        rw [h41] at h43
        replace h0 := h0.wr u44 h45.not
        replace C := C.ow h45 u44
        refine W.e (k29 _ _ ?_)
        obtain ⟨o46, h49, h27⟩ := bnds_some h27
        refine cw_seq' (fun ρ w1 => ∃ o46n, o46 = (.inl o46n) ∧ ∃ S1, Cx No S w S1 w1 ∧ Has ρ [(0, v0), (5, .pointer (some ⟨b35, 0, none⟩)), (6, v0), (7, .int .i64 (a0.length : Int)), (8, .int .i64 x16)] ∧ Sl (kSl api_Label.k) S1 w1 v0 a0 ∧ Ow api_Label.k 46 S1 w.heap.size w1 (.slice (some ⟨b35, 0, none⟩) 1 1) ([y40])) ?_ ?_
        · obtain ⟨o50, h53, h49⟩ := bnd_some h49
          refine cw_seq' (fun ρ w1 => ∃ S1, Cx No S w S1 w1 ∧ Has ρ [(0, v0), (5, .pointer (some ⟨b35, 0, none⟩)), (6, v0), (7, .int .i64 (a0.length : Int)), (8, .int .i64 x16), (27, .bool o50)] ∧ Sl (kSl api_Label.k) S1 w1 v0 a0 ∧ Ow api_Label.k 46 S1 w.heap.size w1 (.slice (some ⟨b35, 0, none⟩) 1 1) ([y40])) ?_ ?_
          · refine cw_region (sv (rv_fieldAddr st46 rfl rfl) ?_)
            obtain ⟨cs54, h55, h56⟩ := Ow.cellsO h43 (show at_ [y40] (0 : Int) = some y40 from rfl)
            obtain rfl := api_Label.r.1 h55
            refine sr (rw_el1 (off := 0) ag9 (h56 _ (Sm.refl _ _)) rfl rfl) ?_
            obtain ⟨y57, h58, h53⟩ := bnd_some h53
            refine sc (dc_call (vs := [.string y40.Name]) can87 rfl ?_)
            refine (label_Name_w C.sb  h58).mono ?_
            rintro _ w59 ⟨S60, rfl, c61⟩
            refine ⟨_, rfl, ?_⟩
            replace h0 := h0.cx c61
            replace h43 := h43.cx c61
            replace C := C.trans c61
            refine sv (rv_not rfl) (sv (mvv (.bool (!y57)) rfl) ?_)
            rcases bif_some h53 with ⟨b62, h53⟩ | ⟨b62, h53⟩
            · refine W.n (gn rfl rfl rfl b62) (W.n (gn rfl rfl rfl b62) (W.n (gn rfl rfl rfl b62) (W.n (gn rfl rfl rfl b62) (sv (ptk (.bool true) rfl b62 rfl) (sv (mvv (.bool true) rfl) (W.n (gn rfl rfl rfl rfl) (W.n (gn rfl rfl rfl rfl) (W.n (gn rfl rfl rfl rfl) (W.n (gn rfl rfl rfl rfl) (sv (ptk (.bool true) rfl rfl rfl) (W.e ?_)))))))))))
              obtain rfl := Option.some.inj h53
              exact ⟨_, C, ⟨rfl, rfl, rfl, rfl, rfl, rfl, trivial⟩, h0, h43⟩
            · refine W.v (gy rfl rfl rfl b62) (rv_fieldAddr st46 rfl rfl) ?_
              obtain ⟨cs63, h64, h65⟩ := Ow.cellsO h43 (show at_ [y40] (0 : Int) = some y40 from rfl)
              obtain rfl := api_Label.r.1 h64
              refine W.r (gy rfl rfl rfl b62) (rw_el1 (off := 1) ag9 (h65 _ (Sm.refl _ _)) rfl rfl) ?_
              obtain ⟨y66, h67, h53⟩ := bnd_some h53
              refine W.c (gy rfl rfl rfl b62) (dc_call (vs := [.string y40.Val, .int .i64 64]) can88 rfl ?_)
              refine (label_within_string_w C.sb  h67).mono ?_
              rintro _ w68 ⟨S69, rfl, c70⟩
              refine ⟨_, rfl, ?_⟩
              replace h0 := h0.cx c70
              replace h43 := h43.cx c70
              replace C := C.trans c70
              refine W.v (gy rfl rfl rfl b62) (rv_not rfl) (sv (pfk (.bool (!y66)) rfl b62 rfl) (sv (mvv (.bool (!y66)) rfl) ?_))
              rcases bif_some h53 with ⟨b71, h53⟩ | ⟨b71, h53⟩
              · refine W.n (gn rfl rfl rfl b71) (W.n (gn rfl rfl rfl b71) (W.n (gn rfl rfl rfl b71) (W.n (gn rfl rfl rfl b71) (sv (ptk (.bool true) rfl b71 rfl) (W.e ?_)))))
                obtain rfl := Option.some.inj h53
                exact ⟨_, C, ⟨rfl, rfl, rfl, rfl, rfl, rfl, trivial⟩, h0, h43⟩
              · refine W.v (gy rfl rfl rfl b71) (rv_fieldAddr st46 rfl rfl) ?_
                obtain ⟨cs72, h73, h74⟩ := Ow.cellsO h43 (show at_ [y40] (0 : Int) = some y40 from rfl)
                obtain rfl := api_Label.r.1 h73
                refine W.r (gy rfl rfl rfl b71) (rw_el1 (off := 0) ag9 (h74 _ (Sm.refl _ _)) rfl rfl) (W.v (gy rfl rfl rfl b71) (mvv (.string x15) rfl) (W.v (gy rfl rfl rfl b71) (rv_sleq rfl rfl) (sv (pfk (.bool (strLt y40.Name x15 || strEq y40.Name x15)) rfl b71 rfl) (W.e ?_))))
                obtain rfl := Option.some.inj h53
                exact ⟨_, C, ⟨rfl, rfl, rfl, rfl, rfl, rfl, trivial⟩, h0, h43⟩
          · rintro ρ w76 ⟨S75, C, h77, h0, h43⟩
            refine h77.cw fun ρ => ?_
            clear h77
            rcases bif_some h49 with ⟨b78, h49⟩ | ⟨b78, h49⟩
            · refine cw_t rfl b78 ?_
              refine cw_seq fun K79 k80 => ?_
              refine cw_region (sv (asv (.bool false) rfl) (W.e (k80 _ _ (cw_ret ?_))))
              obtain rfl := Option.some.inj h49
              replace h27 := h27.2 _ rfl
              obtain rfl := Option.some.inj h27
              replace h18 := h18.2 _ rfl
              obtain rfl := Option.some.inj h18
              have h81 := congrArg some h17
              obtain rfl := Option.some.inj h81
              replace h := h.2 _ rfl
              obtain rfl := Option.some.inj h
              exact ⟨_, rfl, _, rfl, C⟩
            · refine cw_f rfl b78 (cw_skip ?_)
              obtain rfl := Option.some.inj h49
              exact ⟨_, rfl, ⟨_, C, ⟨rfl, rfl, rfl, rfl, rfl, trivial⟩, h0, h43⟩⟩
        · rintro ρ w83 ⟨o46n, rfl, ⟨S82, C, h84, h0, h43⟩⟩
          replace h27 := h27.1 _ rfl
          refine h84.cw fun ρ => ?_
          clear h84
          refine cw_region (sv (rv_fieldAddr st46 rfl rfl) ?_)
          obtain ⟨cs85, h86, h87⟩ := Ow.cellsO h43 (show at_ [y40] (0 : Int) = some y40 from rfl)
          obtain rfl := api_Label.r.1 h86
          refine sr (rw_el1 (off := 0) ag9 (h87 _ (Sm.refl _ _)) rfl rfl) (sv (asv (.string y40.Name) rfl) (W.e ?_))
          obtain rfl := Option.some.inj h27
          exact ⟨_, rfl, ⟨_, C, ⟨rfl, rfl, rfl, rfl, rfl, trivial⟩, h0⟩⟩
      · rintro ρ w89 ⟨o24n, rfl, ⟨S88, C, h90, h0⟩⟩
        replace h18 := h18.1 _ rfl
        refine h90.cw fun ρ => ?_
        clear h90
        refine cw_region ?_
        obtain ⟨y91, h92, h18⟩ := pur_some h18
        refine sv (rv_add rfl rfl h92) (sv (mvv (.int .i64 y91) rfl) (W.e ?_))
        obtain rfl := Option.some.inj h18
        exact ⟨_, rfl, ⟨_, C, ⟨rfl, rfl, rfl, rfl, rfl, trivial⟩, h0⟩⟩
    · refine cw_f rfl b23 (cw_exit ?_)
      obtain rfl := Option.some.inj h18
      have h93 := congrArg some h17
      obtain rfl := Option.some.inj h93
      exact ⟨_, rfl, ⟨_, C, ⟨rfl, trivial⟩, h0⟩⟩
  · rintro ρ w95 ⟨o5n, rfl, ⟨S94, C, h96, h0⟩⟩
    replace h := h.1 _ rfl
    refine h96.cw fun ρ => ?_
    clear h96
    refine cw_seq fun K97 k98 => ?_
    refine cw_region (sv (mvv v0 rfl) ?_)
    obtain ⟨y99, h100, h⟩ := bnd_some h
    refine sc (dc_call (vs := [v0, .int .i64 6]) can89 rfl ?_)
    refine (label_within_api_Label_w C.sb h0 h100).mono ?_
    rintro _ w101 ⟨S102, rfl, c103⟩
    refine ⟨_, rfl, ?_⟩
    replace C := C.trans c103
    refine sv (asv (.bool y99) rfl) (W.e (k98 _ _ (cw_ret ?_)))
    obtain rfl := Option.some.inj h
    exact ⟨_, rfl, _, rfl, C⟩

noncomputable def label_Sort (a0 : List api_Label) : Option ((List api_Label) × Int) :=
  ((slices_Clone_api_Label_api_Label a0).bind fun y5 => ((slices_SortStableFunc_api_Label_api_Label__label_Sort_1 y5).bind fun y14 => ((label_Right y14).bind fun y27 => (bif (!y27) then some (([] : List api_Label), (50 : Int)) else some (y14, (0 : Int))))))
set_option maxRecDepth 100000 in
set_option maxHeartbeats 4000000 in
theorem label_Sort_w {S : Nat → Prop} {w : World} {a0 : List api_Label} {v0 : Value} {r : (List api_Label) × Int} (hS : Sb S w) (h0 : Sl (kSl api_Label.k) S w v0 a0) (h : label_Sort a0 = some r) :
    Calls Tryz.prog 70 (List.toArray [v0]) w fun e w1 => ∃ S1 u0, e = .returned (.tuple (List.toArray [u0, .int .i64 r.2])) ∧ Cx No S w S1 w1 ∧ Sl (kSl api_Label.k) S1 w1 u0 r.1 := by
  refine enter Tryz.func70 rfl (by kernel_rfl) rfl ?_
  have C := Cx.refl (F := No) hS
  unfold label_Sort at h
  refine cw_seq fun K1 k2 => ?_
  refine cw_region (sv (asv (.slice none 0 0) rfl) (sv (asv (.int .i64 0) rfl) (W.e (k2 _ _ ?_))))
  refine cw_seq fun K3 k4 => ?_
  refine cw_region (sv (mvv v0 rfl) ?_)
  obtain ⟨y5, h6, h⟩ := bnd_some h
  refine sc (dc_call (vs := [v0]) can58 rfl ?_)
  refine (slices_Clone_api_Label_api_Label_w C.sb h0 h6).mono ?_
  rintro _ w7 ⟨S8, v10, rfl, c9, h11⟩
  refine ⟨_, rfl, ?_⟩
  replace h11 := h11.base C.up.size
  replace C := C.trans c9
  refine sv (asv v10 rfl) (W.e (k4 _ _ ?_))
  refine cw_seq fun K12 k13 => ?_
  refine cw_region (sv (mvv v10 rfl) ?_)
  obtain ⟨y14, h15, h⟩ := bnd_some h
  refine sc (dc_call (vs := [v10, .func (.func 91) #[] #[]]) can90 rfl ?_)
  refine (slices_SortStableFunc_api_Label_api_Label__label_Sort_1_w C.sb h11 h15).mono ?_
  rintro _ w16 ⟨S21, rfl, c22, h18⟩
  refine ⟨_, rfl, ?_⟩
  replace C := C.ofc c22 (fun b hb => .inr (h11.lt b hb).1)
  refine W.e (k13 _ _ ?_)
  refine cw_seq fun K23 k24 => ?_
  refine cw_seq fun K25 k26 => ?_
  refine cw_region (sv (mvv v10 rfl) ?_)
  replace C := C.sealO h18
  replace h18 := h18.sealed
  obtain ⟨y27, h28, h⟩ := bnd_some h
  refine sc (dc_call (vs := [v10]) can62 rfl ?_)
  refine (label_Right_w C.sb h18 h28).mono ?_
  rintro _ w29 ⟨S30, rfl, c31⟩
  refine ⟨_, rfl, ?_⟩
  replace h18 := h18.cx c31
  replace C := C.trans c31
  refine sv (rv_not rfl) (W.e (k26 _ _ ?_))
  rcases bif_some h with ⟨b32, h⟩ | ⟨b32, h⟩
  · refine cw_t rfl b32 ?_
    refine cw_seq fun K33 k34 => ?_
    refine cw_region (sv (asv (.slice none 0 0) rfl) (sv (asv (.int .i64 50) rfl) (W.e (k34 _ _ (cw_ret ?_)))))
    obtain rfl := Option.some.inj h
    exact ⟨_, rfl, _, _, rfl, C, (sl_nil _ _ _)⟩
  · refine cw_f rfl b32 (cw_skip (k24 _ _ ?_))
    refine cw_seq fun K35 k36 => ?_
    refine cw_region (sv (mvv v10 rfl) (sv (asv v10 rfl) (sv (asv (.int .i64 0) rfl) (W.e (k36 _ _ (cw_ret ?_))))))
    obtain rfl := Option.some.inj h
    exact ⟨_, rfl, _, _, rfl, C, h18⟩

noncomputable def octs_Put.b2 (x32 : Int) (x33 : List Int) : Option ((Int × (List Int)) ⊕ (Int × (List Int))) :=
  (bif (decide ((128 : Int) ≤ x32)) then (pur (IntKind.u8.wrap x32) fun y43 => (pur (ior .u8 y43 (128 : Int)) fun y45 => ((app_ 1 x33 ([y45] : List Int)).bind fun y53 => (pur (ishr .u64 x32 (7 : Int)) fun y61 => some (.inl (y61, y53)))))) else some (.inr (x32, x33)))
noncomputable def octs_Put (a0 : List Int) (a1 : Int) : Option (List Int) :=
  (pur (IntKind.i64.wrap ((a0.length : Int) + (10 : Int))) fun y5 => ((room_ 1 y5).bind fun y7 => ((app_ 1 ([] : List Int) a0).bind fun y14 => ((iter (fun s : Int × (List Int) => octs_Put.b2 s.1 s.2) (a1, y14)).bind fun o22 => (pur (IntKind.u8.wrap o22.1) fun y71 => ((app_ 1 o22.2 ([y71] : List Int)).bind fun y79 => some y79))))))
set_option maxRecDepth 100000 in
set_option maxHeartbeats 4000000 in
theorem octs_Put_w {S : Nat → Prop} {w : World} {a0 : List Int} {a1 : Int} {v0 : Value} {r : (List Int)} (hS : Sb S w) (h0 : Sl (kSl (kI .u8)) S w v0 a0) (h : octs_Put a0 a1 = some r) :
    Calls Tryz.prog 33 (List.toArray [v0, .int .u64 a1]) w fun e w1 => ∃ S1 u0, e = .returned (u0) ∧ Cx No S w S1 w1 ∧ Ow (kI .u8) 5 S1 w.heap.size w1 u0 r := by
  refine enter Tryz.func33 rfl (by kernel_rfl) rfl ?_
  have C := Cx.refl (F := No) hS
  unfold octs_Put at h
  refine cw_seq fun K1 k2 => ?_
  refine cw_region (sv (asv (.slice none 0 0) rfl) (W.e (k2 _ _ ?_)))
  refine cw_seq fun K3 k4 => ?_
  refine cw_region (sv (mvv v0 rfl) (sv (rv_lenS el36 h0 rfl) ?_))
  obtain ⟨y5, h6, h⟩ := pur_some h
  refine sv (rv_add rfl rfl h6) ?_
  obtain ⟨y7, h8, h⟩ := bnd_some h
  refine sc (dc_makeS el36 rfl rfl h8 C.up.size C.sb fun v9 w10 h11 h12 u13 => ?_)
  replace h0 := h0.nw u13
  replace C := C.new u13
  refine sv (mvv v0 rfl) ?_
  obtain ⟨y14, h15, h⟩ := bnd_some h
  have h21 := h11
  refine sc (dc_append el36 (by decide) h21 (h0.src fun _ h => h) rfl rfl h15 C.up.size C.sb fun v16 w17 h18 u19 h20 => ?_)
  replace C := C.ow h21 u19
  refine sv (asv v16 rfl) (W.e (k4 _ _ ?_))
  obtain ⟨o22, h25, h⟩ := bnd_some h
  refine cw_seq' (fun ρ w1 => ∃ S1 v66, Cx No S w S1 w1 ∧ Has ρ [(1, .int .u64 o22.1), (5, v66)] ∧ Ow (kI .u8) 5 S1 w.heap.size w1 v66 o22.2) ?_ ?_
  · refine cw_block ?_
    refine cw_iter h25 (fun s ρ w1 => ∃ S1 v29, Cx No S w S1 w1 ∧ Has ρ [(1, .int .u64 s.1), (5, v29)] ∧ Ow (kI .u8) 5 S1 w.heap.size w1 v29 s.2) ⟨_, _, C, ⟨rfl, rfl, trivial⟩, h18⟩ ?_
    rintro ⟨x32, x33⟩ q26 ρ w28 ⟨S27, v29, C, h31, h30⟩ h35 h34
    refine h31.cw fun ρ => ?_
    clear h31
    replace h35 : octs_Put.b2 x32 x33 = some q26 := h35
    unfold octs_Put.b2 at h35
    refine cw_seq fun K36 k37 => ?_
    refine cw_seq fun K38 k39 => ?_
    refine cw_region (sv (mvv (.int .u64 x32) rfl) (sv (rv_geq rfl rfl) (W.e (k39 _ _ ?_))))
    rcases bif_some h35 with ⟨b40, h35⟩ | ⟨b40, h35⟩
    · refine cw_t rfl b40 (cw_skip (k37 _ _ ?_))
      refine cw_seq fun K41 k42 => ?_
      refine cw_block (cw_region (sv (mvv v29 rfl) (sv (mvv (.int .u64 x32) rfl) ?_)))
      obtain ⟨y43, h44, h35⟩ := pur_some h35
      refine sv (rv_conv Tryz.underlying74 Tryz.underlying5 rfl h44) ?_
      obtain ⟨y45, h46, h35⟩ := pur_some h35
      refine sv (rv_or rfl rfl h46) ?_
      refine sc (dc_lit (vs := [.int .u8 y45]) (xs := ([y45] : List Int)) (base := w.heap.size) el36 rfl rfl (.cons (sl_sc.2 rfl) (.nil)) (Nat.le_of_ble_eq_true rfl) C.up.size C.sb fun v47 w48 h49 h50 u51 => ?_)
      have p52 := ap_fresh h50 (fun b hb => (h30.lt b hb).2)
      replace h30 := h30.nw u51
      replace C := C.new u51
      obtain ⟨y53, h54, h35⟩ := bnd_some h35
      have h60 := h30
      refine sc (dc_append el36 (by decide) h60 h49.src rfl rfl h54 C.up.size C.sb fun v55 w56 h57 u58 h59 => ?_)
      replace C := C.ow h60 u58
      refine sv (asv v55 rfl) (W.e (k42 _ _ (cw_region (sv (mvv (.int .u64 x32) rfl) ?_))))
      obtain ⟨y61, h62, h35⟩ := pur_some h35
      refine sv (rv_shr rfl rfl (by decide) h62) (sv (asv (.int .u64 y61) rfl) (W.e ?_))
      obtain rfl := Option.some.inj h35
      exact ⟨_, rfl, ⟨_, _, C, ⟨rfl, rfl, trivial⟩, h57⟩⟩
    · refine cw_f rfl b40 (cw_exit ?_)
      obtain rfl := Option.some.inj h35
      have h63 := congrArg some h34
      obtain rfl := Option.some.inj h63
      exact ⟨_, _, C, ⟨rfl, rfl, trivial⟩, h30⟩
  · rintro ρ w65 ⟨S64, v66, C, h68, h67⟩
    refine h68.cw fun ρ => ?_
    clear h68
    refine cw_seq fun K69 k70 => ?_
    refine cw_region (sv (mvv v66 rfl) (sv (mvv (.int .u64 o22.1) rfl) ?_))
    obtain ⟨y71, h72, h⟩ := pur_some h
    refine sv (rv_conv Tryz.underlying74 Tryz.underlying5 rfl h72) ?_
    refine sc (dc_lit (vs := [.int .u8 y71]) (xs := ([y71] : List Int)) (base := w.heap.size) el36 rfl rfl (.cons (sl_sc.2 rfl) (.nil)) (Nat.le_of_ble_eq_true rfl) C.up.size C.sb fun v73 w74 h75 h76 u77 => ?_)
    have p78 := ap_fresh h76 (fun b hb => (h67.lt b hb).2)
    replace h67 := h67.nw u77
    replace C := C.new u77
    obtain ⟨y79, h80, h⟩ := bnd_some h
    have h86 := h67
    refine sc (dc_append el36 (by decide) h86 h75.src rfl rfl h80 C.up.size C.sb fun v81 w82 h83 u84 h85 => ?_)
    replace C := C.ow h86 u84
    refine sv (asv v81 rfl) (W.e (k70 _ _ (cw_ret ?_)))
    obtain rfl := Option.some.inj h
    exact ⟨_, rfl, _, _, rfl, C, h83⟩

noncomputable def octs_PutText (a0 : List Int) (a1 : ByteArray) : Option (List Int) :=
  (pur (IntKind.u64.wrap (a1.size : Int)) fun y5 => ((octs_Put a0 y5).bind fun y7 => ((app_ 1 y7 (strB a1)).bind fun y14 => some y14)))
set_option maxRecDepth 100000 in
set_option maxHeartbeats 4000000 in
theorem octs_PutText_w {S : Nat → Prop} {w : World} {a0 : List Int} {a1 : ByteArray} {v0 : Value} {r : (List Int)} (hS : Sb S w) (h0 : Sl (kSl (kI .u8)) S w v0 a0) (h : octs_PutText a0 a1 = some r) :
    Calls Tryz.prog 63 (List.toArray [v0, .string a1]) w fun e w1 => ∃ S1 u0, e = .returned (u0) ∧ Cx No S w S1 w1 ∧ Ow (kI .u8) 5 S1 w.heap.size w1 u0 r := by
  refine enter Tryz.func63 rfl (by kernel_rfl) rfl ?_
  have C := Cx.refl (F := No) hS
  unfold octs_PutText at h
  refine cw_seq fun K1 k2 => ?_
  refine cw_region (sv (asv (.slice none 0 0) rfl) (W.e (k2 _ _ ?_)))
  refine cw_seq fun K3 k4 => ?_
  refine cw_region (sv (mvv v0 rfl) (sv (mvv (.string a1) rfl) (sv (rv_slen Tryz.underlying9 rfl) ?_)))
  obtain ⟨y5, h6, h⟩ := pur_some h
  refine sv (rv_conv Tryz.underlying3 Tryz.underlying74 rfl h6) ?_
  obtain ⟨y7, h8, h⟩ := bnd_some h
  refine sc (dc_call (vs := [v0, .int .u64 y5]) can33 rfl ?_)
  refine (octs_Put_w C.sb h0 h8).mono ?_
  rintro _ w9 ⟨S10, v12, rfl, c11, h13⟩
  refine ⟨_, rfl, ?_⟩
  replace h13 := h13.base C.up.size
  replace C := C.trans c11
  refine sv (mvv (.string a1) rfl) ?_
  obtain ⟨y14, h15, h⟩ := bnd_some h
  have h21 := h13
  refine sc (dc_appendS el36 Tryz.underlying9 zv5 h21 rfl rfl h15 C.up.size C.sb fun v16 w17 h18 u19 h20 => ?_)
  replace C := C.ow h21 u19
  refine sv (asv v16 rfl) (W.e (k4 _ _ (cw_ret ?_)))
  obtain rfl := Option.some.inj h
  exact ⟨_, rfl, _, _, rfl, C, h18⟩

noncomputable def label_Put.b2 (a0 : List api_Label) (x38 : List Int) (x39 : Int) : Option (((List Int) × Int) ⊕ ((List Int))) :=
  (bif (decide (x39 < (a0.length : Int))) then ((at_ a0 x39).bind fun y51 => (pur y51 fun y62 => ((octs_PutText x38 y62.Name).bind fun y77 => ((octs_PutText y77 y62.Val).bind fun y86 => (pur (IntKind.i64.wrap (x39 + (1 : Int))) fun y95 => some (.inl (y86, y95))))))) else some (.inr x38))
noncomputable def label_Put (a0 : List api_Label) : Option ((List Int) × Int) :=
  ((label_Right a0).bind fun y7 => (bif (!y7) then some (([] : List Int), (50 : Int)) else (pur (IntKind.u64.wrap (a0.length : Int)) fun y17 => ((octs_Put ([] : List Int) y17).bind fun y19 => ((iter (fun s : (List Int) × Int => label_Put.b2 a0 s.1 s.2) (y19, (0 : Int))).bind fun o26 => some (o26, (0 : Int)))))))
set_option maxRecDepth 100000 in
set_option maxHeartbeats 4000000 in
theorem label_Put_w {S : Nat → Prop} {w : World} {a0 : List api_Label} {v0 : Value} {r : (List Int) × Int} (hS : Sb S w) (h0 : Sl (kSl api_Label.k) S w v0 a0) (h : label_Put a0 = some r) :
    Calls Tryz.prog 35 (List.toArray [v0]) w fun e w1 => ∃ S1 u0, e = .returned (.tuple (List.toArray [u0, .int .i64 r.2])) ∧ Cx No S w S1 w1 ∧ Ow (kI .u8) 5 S1 w.heap.size w1 u0 r.1 := by
  refine enter Tryz.func35 rfl (by kernel_rfl) rfl ?_
  have C := Cx.refl (F := No) hS
  unfold label_Put at h
  refine cw_seq fun K1 k2 => ?_
  refine cw_region (sv (asv (.slice none 0 0) rfl) (sv (asv (.int .i64 0) rfl) (W.e (k2 _ _ ?_))))
  refine cw_seq fun K3 k4 => ?_
  refine cw_seq fun K5 k6 => ?_
  refine cw_region (sv (mvv v0 rfl) ?_)
  obtain ⟨y7, h8, h⟩ := bnd_some h
  refine sc (dc_call (vs := [v0]) can62 rfl ?_)
  refine (label_Right_w C.sb h0 h8).mono ?_
  rintro _ w9 ⟨S10, rfl, c11⟩
  refine ⟨_, rfl, ?_⟩
  replace h0 := h0.cx c11
  replace C := C.trans c11
  refine sv (rv_not rfl) (W.e (k6 _ _ ?_))
  rcases bif_some h with ⟨b12, h⟩ | ⟨b12, h⟩
  · refine cw_t rfl b12 ?_
    refine cw_seq fun K13 k14 => ?_
    refine cw_region (sv (asv (.slice none 0 0) rfl) (sv (asv (.int .i64 50) rfl) (W.e (k14 _ _ (cw_ret ?_)))))
    obtain rfl := Option.some.inj h
    exact ⟨_, rfl, _, _, rfl, C, Ow.nil _ _ _ _ _⟩
  · refine cw_f rfl b12 (cw_skip (k4 _ _ ?_))
    refine cw_seq fun K15 k16 => ?_
    refine cw_region (sv (mvv v0 rfl) (sv (rv_lenS el31 h0 rfl) ?_))
    obtain ⟨y17, h18, h⟩ := pur_some h
    refine sv (rv_conv Tryz.underlying3 Tryz.underlying74 rfl h18) ?_
    obtain ⟨y19, h20, h⟩ := bnd_some h
    refine sc (dc_call (vs := [.slice none 0 0, .int .u64 y17]) can33 rfl ?_)
    refine (octs_Put_w C.sb (sl_nil _ _ _) h20).mono ?_
    rintro _ w21 ⟨S22, v24, rfl, c23, h25⟩
    refine ⟨_, rfl, ?_⟩
    replace h25 := h25.base C.up.size
    replace h0 := h0.cx c23
    replace C := C.trans c23
    refine sv (asv v24 rfl) (W.e (k16 _ _ ?_))
    obtain ⟨o26, h29, h⟩ := bnd_some h
    refine cw_seq' (fun ρ w1 => ∃ S1 v100, Cx No S w S1 w1 ∧ Has ρ [(4, v100)] ∧ Ow (kI .u8) 5 S1 w.heap.size w1 v100 o26) ?_ ?_
    · refine cw_seq fun K30 k31 => ?_
      refine cw_region (sv (mvv v0 rfl) (sv (rv_lenS el31 h0 rfl) (sv (mvv (.int .i64 0) rfl) (W.e (k31 _ _ (cw_block ?_))))))
      refine cw_iter h29 (fun s ρ w1 => ∃ S1 v35, Cx No S w S1 w1 ∧ Has ρ [(4, v35), (14, v0), (15, .int .i64 (a0.length : Int)), (16, .int .i64 s.2)] ∧ Ow (kI .u8) 5 S1 w.heap.size w1 v35 s.1 ∧ Sl (kSl api_Label.k) S1 w1 v0 a0) ⟨_, _, C, ⟨rfl, rfl, rfl, rfl, trivial⟩, h25, h0⟩ ?_
      rintro ⟨x38, x39⟩ q32 ρ w34 ⟨S33, v35, C, h37, h36, h0⟩ h41 h40
      refine h37.cw fun ρ => ?_
      clear h37
      replace h41 : label_Put.b2 a0 x38 x39 = some q32 := h41
      unfold label_Put.b2 at h41
      refine cw_seq fun K42 k43 => ?_
      refine cw_region (sv (rv_lss rfl rfl) (W.e (k43 _ _ ?_)))
      refine cw_seq fun K44 k45 => ?_
      rcases bif_some h41 with ⟨b46, h41⟩ | ⟨b46, h41⟩
      · refine cw_t rfl b46 (cw_skip (k45 _ _ ?_))
        refine cw_seq fun K47 k48 => ?_
        refine cw_block ?_
        refine cw_seq fun K49 k50 => ?_
        refine cw_region ?_
        obtain ⟨y51, h52, h41⟩ := bnd_some h41
        refine sv (rv_index el31 h0 rfl rfl h52) ?_
        obtain ⟨v53, h54, h55⟩ := rw_loadA (P := Tryz.prog) el31 h0 h52
        obtain rfl := api_Label.o.1 h54
        refine sr (h55 _ (Sm.refl _ _) rfl) ?_
        refine sc (dc_allocO (x0 := (api_Label.mk ByteArray.empty ByteArray.empty)) (base := w.heap.size) el31 zr46 (fun _ => api_Label.r.2 rfl) C.up.size C.sb fun b56 w57 h58 h59 u60 => ?_)
        have p61 := ap_fresh h59 (fun b hb => (h36.lt b hb).2)
        replace h36 := h36.nw u60
        replace h0 := h0.nw u60
        replace C := C.new u60
        obtain ⟨y62, h63, h41⟩ := pur_some h41
        have h67 := h58
        refine sc (dc_storeO el31 h67 (show at_ [(api_Label.mk ByteArray.empty ByteArray.empty)] (0 : Int) = some (api_Label.mk ByteArray.empty ByteArray.empty) from rfl) rfl rfl (((api_Label.o (x := y51)).2 rfl)) fun w64 h65 u66 => ?_)
        replace h65 : Ow api_Label.k 46 S33 w.heap.size w64 (.slice (some ⟨b56, 0, none⟩) 1 1) [y51] := h65
        rw [h63] at h65
        replace h36 := h36.wr u66 h67.not (ap_symm p61)
        replace h0 := h0.wr u66 h67.not
        replace C := C.ow h67 u66
        refine W.e (k50 _ _ ?_)
        refine cw_drawU (.one 0 true (.one 1 true (.one 2 true (.one 4 true (.one 5 true (.one 3 false (.one 6 false (.one 7 true .done)))))))) [(2, [9]), (5, [9])] [(3, [9]), (6, [9])] (fun c => bif Nat.beq c 9 then (fun _ => True) else No) fol (by kernel_rfl) fun w68 u69 => ?_
        replace h36 := h36.nw u69
        replace h65 := h65.nw u69
        replace h0 := h0.nw u69
        replace C := C.new u69
        have h36d := h36
        have h65d := h65
        have h0d := h0
        have m70 := Sm.refl (fun _ => True) w68
        refine mtv rfl rfl (mvv v35 rfl) (mtv rfl rfl (rv_fieldAddr st46 rfl rfl) ?_)
        obtain ⟨cs71, h72, h73⟩ := Ow.cellsO h65 (show at_ [y62] (0 : Int) = some y62 from rfl)
        obtain rfl := api_Label.r.1 h72
        refine mtr rfl rfl ⟨m70, trivial⟩ (fun w' hq => rw_el1 (off := 0) ag9 (h73 w' (hq.1.mono fun _ _ => trivial)) rfl rfl) (mtv rfl rfl (rv_fieldAddr st46 rfl rfl) ?_)
        obtain ⟨cs74, h75, h76⟩ := Ow.cellsO h65 (show at_ [y62] (0 : Int) = some y62 from rfl)
        obtain rfl := api_Label.r.1 h75
        refine mtr rfl rfl ⟨m70, trivial⟩ (fun w' hq => rw_el1 (off := 1) ag9 (h76 w' (hq.1.mono fun _ _ => trivial)) rfl rfl) ?_
        replace h0 := h0.or (T := Blk v35)
        replace C := C.sealO h36
        replace h36 := h36.sealed
        obtain ⟨y77, h78, h41⟩ := bnd_some h41
        refine mtc rfl rfl (dc_call (vs := [v35, .string y62.Name]) can63 rfl ?_)
        refine (octs_PutText_w C.sb h36 h78).mono ?_
        rintro _ w79 ⟨S80, v82, rfl, c81, h83⟩
        refine ⟨_, rfl, ?_⟩
        replace h83 := h83.base C.up.size
        replace h0 := h0.cx c81
        replace C := C.trans c81
        have z84 := (c81.up).size
        have m85 := m70.nx c81.up (by omega)
        refine ⟨⟨m85, trivial⟩, ?_⟩
        replace h0 := h0.or (T := Blk v82)
        replace C := C.sealO h83
        replace h83 := h83.sealed
        obtain ⟨y86, h87, h41⟩ := bnd_some h41
        refine mtc rfl rfl (dc_call (vs := [v82, .string y62.Val]) can63 rfl ?_)
        refine (octs_PutText_w C.sb h83 h87).mono ?_
        rintro _ w88 ⟨S89, v91, rfl, c90, h92⟩
        refine ⟨_, rfl, ?_⟩
        replace h92 := h92.base C.up.size
        replace h0 := h0.cx c90
        replace C := C.trans c90
        have z93 := (c90.up).size
        have m94 := m85.nx c90.up (by omega)
        refine ⟨⟨m94, trivial⟩, ?_⟩
        refine mtv rfl rfl (asv v91 rfl) (MT.e (k48 _ _ (cw_region ?_)))
        obtain ⟨y95, h96, h41⟩ := pur_some h41
        refine sv (rv_add rfl rfl h96) (sv (mvv (.int .i64 y95) rfl) (W.e ?_))
        obtain rfl := Option.some.inj h41
        exact ⟨_, rfl, ⟨_, _, C, ⟨rfl, rfl, rfl, rfl, trivial⟩, h92, h0⟩⟩
      · refine cw_f rfl b46 (cw_exit ?_)
        obtain rfl := Option.some.inj h41
        have h97 := congrArg some h40
        obtain rfl := Option.some.inj h97
        exact ⟨_, _, C, ⟨rfl, trivial⟩, h36⟩
    · rintro ρ w99 ⟨S98, v100, C, h102, h101⟩
      refine h102.cw fun ρ => ?_
      clear h102
      refine cw_seq fun K103 k104 => ?_
      refine cw_region (sv (mvv v100 rfl) (sv (asv v100 rfl) (sv (asv (.int .i64 0) rfl) (W.e (k104 _ _ (cw_ret ?_))))))
      obtain rfl := Option.some.inj h
      exact ⟨_, rfl, _, _, rfl, C, h101⟩

noncomputable def index_key (a0 : List api_Label) : Option ((List api_Label) × ByteArray × Int) :=
  ((label_Sort a0).bind fun y5 => (bif (y5.2 != (0 : Int)) then some (([] : List api_Label), ByteArray.empty, y5.2) else ((label_Put y5.1).bind fun y21 => some (y5.1, (strOf y21.1), y21.2))))
set_option maxRecDepth 100000 in
set_option maxHeartbeats 4000000 in
theorem index_key_w {S : Nat → Prop} {w : World} {a0 : List api_Label} {v0 : Value} {r : (List api_Label) × ByteArray × Int} (hS : Sb S w) (h0 : Sl (kSl api_Label.k) S w v0 a0) (h : index_key a0 = some r) :
    Calls Tryz.prog 43 (List.toArray [v0]) w fun e w1 => ∃ S1 u0, e = .returned (.tuple (List.toArray [u0, .string r.2.1, .int .i64 r.2.2])) ∧ Cx No S w S1 w1 ∧ Sl (kSl api_Label.k) S1 w1 u0 r.1 := by
  refine enter Tryz.func43 rfl (by kernel_rfl) rfl ?_
  have C := Cx.refl (F := No) hS
  unfold index_key at h
  refine cw_seq fun K1 k2 => ?_
  refine cw_region (sv (asv (.slice none 0 0) rfl) (sv (asv (.string ByteArray.empty) rfl) (sv (asv (.int .i64 0) rfl) (W.e (k2 _ _ ?_)))))
  refine cw_seq fun K3 k4 => ?_
  refine cw_region (sv (mvv v0 rfl) ?_)
  obtain ⟨y5, h6, h⟩ := bnd_some h
  refine sc (dc_call (vs := [v0]) can70 rfl ?_)
  refine (label_Sort_w C.sb h0 h6).mono ?_
  rintro _ w7 ⟨S8, v10, rfl, c9, h11⟩
  refine ⟨_, rfl, ?_⟩
  replace C := C.trans c9
  refine sv (mvv (.tuple (List.toArray [v10, .int .i64 y5.2])) rfl) (sv (rv_extract rfl rfl) (sv (rv_extract rfl rfl) (sv (asv v10 rfl) (sv (asv (.int .i64 y5.2) rfl) (W.e (k4 _ _ ?_))))))
  refine cw_seq fun K12 k13 => ?_
  refine cw_seq fun K14 k15 => ?_
  refine cw_region (sv (mvv (.int .i64 y5.2) rfl) (sv (rv_neq rfl rfl) (W.e (k15 _ _ ?_))))
  rcases bif_some h with ⟨b16, h⟩ | ⟨b16, h⟩
  · refine cw_t rfl b16 ?_
    refine cw_seq fun K17 k18 => ?_
    refine cw_region (sv (mvv (.int .i64 y5.2) rfl) (sv (asv (.slice none 0 0) rfl) (sv (asv (.string ByteArray.empty) rfl) (sv (asv (.int .i64 y5.2) rfl) (W.e (k18 _ _ (cw_ret ?_)))))))
    obtain rfl := Option.some.inj h
    exact ⟨_, rfl, _, _, rfl, C, (sl_nil _ _ _)⟩
  · refine cw_f rfl b16 (cw_skip (k13 _ _ ?_))
    refine cw_seq fun K19 k20 => ?_
    refine cw_region (sv (mvv v10 rfl) ?_)
    obtain ⟨y21, h22, h⟩ := bnd_some h
    refine sc (dc_call (vs := [v10]) can35 rfl ?_)
    refine (label_Put_w C.sb h11 h22).mono ?_
    rintro _ w23 ⟨S24, v26, rfl, c25, h27⟩
    refine ⟨_, rfl, ?_⟩
    replace h27 := h27.base C.up.size
    replace h11 := h11.cx c25
    replace C := C.trans c25
    refine sv (mvv (.tuple (List.toArray [v26, .int .i64 y21.2])) rfl) (sv (rv_extract rfl rfl) (sv (rv_extract rfl rfl) (sv (asv v26 rfl) (sv (asv (.int .i64 y21.2) rfl) (W.e (k20 _ _ ?_))))))
    refine cw_seq fun K28 k29 => ?_
    refine cw_drawU (.one 0 true (.one 1 true (.one 3 true (.one 4 true (.one 2 false (.one 5 true (.one 6 true .done))))))) [] [(2, [])] (fun c => No) fol (by kernel_rfl) fun w30 u31 => ?_
    replace h11 := h11.nw u31
    replace h27 := h27.nw u31
    replace C := C.new u31
    have h11d := h11
    have h27d := h27
    refine mtv rfl rfl (mvv v10 rfl) (mtv rfl rfl (mvv v26 rfl) (mtv rfl rfl (mvv (.int .i64 y21.2) rfl) (mtv rfl rfl (asv v10 rfl) (mtc rfl rfl (Rw.does (rw_str h27.sealed (Sm.refl _ _) Tryz.underlying36 Tryz.underlying5 Tryz.underlying9 rfl) ⟨trivial, mtv rfl rfl (asv (.string (strOf y21.1)) rfl) (mtv rfl rfl (asv (.int .i64 y21.2) rfl) (MT.e (k29 _ _ (cw_ret ?_))))⟩)))))
    obtain rfl := Option.some.inj h
    exact ⟨_, rfl, _, _, rfl, C, h11⟩

noncomputable def post_Right.b2 (a0 : List Int) (x15 : Int) (x16 : Int) : Option ((Int × Int) ⊕ ((Unit) ⊕ (Bool))) :=
  (bif (decide (x16 < (a0.length : Int))) then ((at_ a0 x16).bind fun y28 => (bif (decide (y28 ≤ x15)) then some (.inr (.inr false)) else (pur (IntKind.i64.wrap (x16 + (1 : Int))) fun y38 => some (.inl (y28, y38))))) else some (.inr (.inl ())))
noncomputable def post_Right (a0 : List Int) : Option Bool :=
  ((iter (fun s : Int × Int => post_Right.b2 a0 s.1 s.2) ((-1 : Int), (0 : Int))).bind (Sum.elim (fun o5n => some (decide ((a0.length : Int) ≤ (4096 : Int)))) (fun q => some q)))
set_option maxRecDepth 100000 in
set_option maxHeartbeats 4000000 in
theorem post_Right_w {S : Nat → Prop} {w : World} {a0 : List Int} {v0 : Value} {r : Bool} (hS : Sb S w) (h0 : Sl (kSl (kI .i64)) S w v0 a0) (h : post_Right a0 = some r) :
    Calls Tryz.prog 122 (List.toArray [v0]) w fun e w1 => ∃ S1, e = .returned (.bool r) ∧ Cx No S w S1 w1 := by
  refine enter Tryz.func122 rfl (by kernel_rfl) rfl ?_
  have C := Cx.refl (F := No) hS
  unfold post_Right at h
  refine cw_seq fun K1 k2 => ?_
  refine cw_region (sv (asv (.bool false) rfl) (W.e (k2 _ _ ?_)))
  refine cw_seq fun K3 k4 => ?_
  refine cw_region (sv (asv (.int .i64 (-1)) rfl) (W.e (k4 _ _ ?_)))
  obtain ⟨o5, h8, h⟩ := bnds_some h
  refine cw_seq' (fun ρ w1 => ∃ o5n, o5 = (.inl o5n) ∧ ∃ S1, Cx No S w S1 w1 ∧ Has ρ [(0, v0)] ∧ Sl (kSl (kI .i64)) S1 w1 v0 a0) ?_ ?_
  · refine cw_seq fun K9 k10 => ?_
    refine cw_region (sv (mvv v0 rfl) (sv (rv_lenS el49 h0 rfl) (sv (mvv (.int .i64 0) rfl) (W.e (k10 _ _ (cw_block ?_))))))
    refine cw_iter h8 (fun s ρ w1 => ∃ S1, Cx No S w S1 w1 ∧ Has ρ [(0, v0), (3, .int .i64 s.1), (6, v0), (7, .int .i64 (a0.length : Int)), (8, .int .i64 s.2)] ∧ Sl (kSl (kI .i64)) S1 w1 v0 a0) ⟨_, C, ⟨rfl, rfl, rfl, rfl, rfl, trivial⟩, h0⟩ ?_
    rintro ⟨x15, x16⟩ q11 ρ w13 ⟨S12, C, h14, h0⟩ h18 h17
    refine h14.cw fun ρ => ?_
    clear h14
    replace h18 : post_Right.b2 a0 x15 x16 = some q11 := h18
    unfold post_Right.b2 at h18
    refine cw_seq fun K19 k20 => ?_
    refine cw_region (sv (rv_lss rfl rfl) (W.e (k20 _ _ ?_)))
    refine cw_seq fun K21 k22 => ?_
    rcases bif_some h18 with ⟨b23, h18⟩ | ⟨b23, h18⟩
    · refine cw_t rfl b23 (cw_skip (k22 _ _ ?_))
      refine cw_seq fun K24 k25 => ?_
      refine cw_block ?_
      refine cw_seq fun K26 k27 => ?_
      refine cw_region ?_
      obtain ⟨y28, h29, h18⟩ := bnd_some h18
      refine sv (rv_index el49 h0 rfl rfl h29) (sr (rw_loadC el49 h0 h29 rfl _ (Sm.refl _ _)) (sv (asv (.int .i64 y28) rfl) (W.e (k27 _ _ ?_))))
      refine cw_seq fun K30 k31 => ?_
      refine cw_seq fun K32 k33 => ?_
      refine cw_region (sv (mvv (.int .i64 y28) rfl) (sv (mvv (.int .i64 x15) rfl) (sv (rv_leq rfl rfl) (W.e (k33 _ _ ?_)))))
      rcases bif_some h18 with ⟨b34, h18⟩ | ⟨b34, h18⟩
      · refine cw_t rfl b34 ?_
        refine cw_seq fun K35 k36 => ?_
        refine cw_region (sv (asv (.bool false) rfl) (W.e (k36 _ _ (cw_ret ?_))))
        obtain rfl := Option.some.inj h18
        have h37 := congrArg some h17
        obtain rfl := Option.some.inj h37
        replace h := h.2 _ rfl
        obtain rfl := Option.some.inj h
        exact ⟨_, rfl, _, rfl, C⟩
      · refine cw_f rfl b34 (cw_skip (k31 _ _ (cw_region (sv (mvv (.int .i64 y28) rfl) (sv (asv (.int .i64 y28) rfl) (W.e (k25 _ _ (cw_region ?_))))))))
        obtain ⟨y38, h39, h18⟩ := pur_some h18
        refine sv (rv_add rfl rfl h39) (sv (mvv (.int .i64 y38) rfl) (W.e ?_))
        obtain rfl := Option.some.inj h18
        exact ⟨_, rfl, ⟨_, C, ⟨rfl, rfl, rfl, rfl, rfl, trivial⟩, h0⟩⟩
    · refine cw_f rfl b23 (cw_exit ?_)
      obtain rfl := Option.some.inj h18
      have h40 := congrArg some h17
      obtain rfl := Option.some.inj h40
      exact ⟨_, rfl, ⟨_, C, ⟨rfl, trivial⟩, h0⟩⟩
  · rintro ρ w42 ⟨o5n, rfl, ⟨S41, C, h43, h0⟩⟩
    replace h := h.1 _ rfl
    refine h43.cw fun ρ => ?_
    clear h43
    refine cw_seq fun K44 k45 => ?_
    refine cw_region (sv (mvv v0 rfl) (sv (rv_lenS el49 h0 rfl) (sv (rv_leq rfl rfl) (sv (asv (.bool (decide ((a0.length : Int) ≤ (4096 : Int)))) rfl) (W.e (k45 _ _ (cw_ret ?_)))))))
    obtain rfl := Option.some.inj h
    exact ⟨_, rfl, _, rfl, C⟩

noncomputable def post_told (a0 : List Int) : Option ((List Int) × Int) :=
  (bif (decide ((4096 : Int) < (a0.length : Int))) then some (([] : List Int), (3 : Int)) else some (a0, (0 : Int)))
set_option maxRecDepth 100000 in
set_option maxHeartbeats 4000000 in
theorem post_told_w {S : Nat → Prop} {w : World} {a0 : List Int} {v0 : Value} {r : (List Int) × Int} (hS : Sb S w) (h0 : Sl (kSl (kI .i64)) S w v0 a0) (h : post_told a0 = some r) :
    Calls Tryz.prog 123 (List.toArray [v0]) w fun e w1 => ∃ S1 u0, e = .returned (.tuple (List.toArray [u0, .int .i64 r.2])) ∧ Cx No S w S1 w1 ∧ Sl (kSl (kI .i64)) S1 w1 u0 r.1 := by
  refine enter Tryz.func123 rfl (by kernel_rfl) rfl ?_
  have C := Cx.refl (F := No) hS
  unfold post_told at h
  refine cw_seq fun K1 k2 => ?_
  refine cw_region (sv (asv (.slice none 0 0) rfl) (sv (asv (.int .i64 0) rfl) (W.e (k2 _ _ ?_))))
  refine cw_seq fun K3 k4 => ?_
  refine cw_seq fun K5 k6 => ?_
  refine cw_region (sv (mvv v0 rfl) (sv (rv_lenS el49 h0 rfl) (sv (rv_gtr rfl rfl) (W.e (k6 _ _ ?_)))))
  rcases bif_some h with ⟨b7, h⟩ | ⟨b7, h⟩
  · refine cw_t rfl b7 ?_
    refine cw_seq fun K8 k9 => ?_
    refine cw_region (sv (asv (.slice none 0 0) rfl) (sv (asv (.int .i64 3) rfl) (W.e (k9 _ _ (cw_ret ?_)))))
    obtain rfl := Option.some.inj h
    exact ⟨_, rfl, _, _, rfl, C, (sl_nil _ _ _)⟩
  · refine cw_f rfl b7 (cw_skip (k4 _ _ ?_))
    refine cw_seq fun K10 k11 => ?_
    refine cw_region (sv (mvv v0 rfl) (sv (asv v0 rfl) (sv (asv (.int .i64 0) rfl) (W.e (k11 _ _ (cw_ret ?_))))))
    obtain rfl := Option.some.inj h
    exact ⟨_, rfl, _, _, rfl, C, h0⟩

noncomputable def post_merge.b4 (a2 : Bool) (a3 : Bool) (a4 : Bool) (x47 : List Int) (x48 : List Int) (x49 : List Int) : Option (((List Int) × (List Int) × (List Int)) ⊕ ((List Int) × (List Int) × (List Int))) :=
  (((bif (decide ((0 : Int) < (x47.length : Int))) then some (decide ((0 : Int) < (x48.length : Int))) else some false).bind fun o56 => (bif o56 then some (.inl ()) else some (.inr (.inr (x47, x48, x49))))).bind (Sum.elim (fun o52n => ((at_ x47 (0 : Int)).bind fun y74 => ((at_ x48 (0 : Int)).bind fun y76 => (bif (decide (y74 < y76)) then ((bif a2 then ((app_ 8 x49 ([y74] : List Int)).bind fun y94 => some y94) else some x49).bind fun o81 => ((from_ x47 (1 : Int)).bind fun y107 => some (.inl (y107, x48, o81)))) else (bif (decide (y76 < y74)) then ((bif a4 then ((app_ 8 x49 ([y76] : List Int)).bind fun y128 => some y128) else some x49).bind fun o115 => ((from_ x48 (1 : Int)).bind fun y141 => some (.inl (x47, y141, o115)))) else ((bif a3 then ((app_ 8 x49 ([y74] : List Int)).bind fun y159 => some y159) else some x49).bind fun o146 => ((from_ x47 (1 : Int)).bind fun y174 => ((from_ x48 (1 : Int)).bind fun y179 => some (.inl (y174, y179, o146)))))))))) (fun q => some q)))
noncomputable def post_merge (a0 : List Int) (a1 : List Int) (a2 : Bool) (a3 : Bool) (a4 : Bool) : Option ((List Int) × Int) :=
  ((((post_Right a0).bind fun y11 => (bif (!y11) then some true else ((post_Right a1).bind fun y17 => some (!y17)))).bind fun o7 => (bif o7 then some (.inr (([] : List Int), (1 : Int))) else some (.inl ()))).bind (Sum.elim (fun o3n => ((iter (fun s : (List Int) × (List Int) × (List Int) => post_merge.b4 a2 a3 a4 s.1 s.2.1 s.2.2) (a0, a1, ([] : List Int))).bind fun o33 => ((bif a2 then ((app_ 8 o33.2.2 o33.1).bind fun y200 => some y200) else some o33.2.2).bind fun o193 => ((bif a4 then ((app_ 8 o193 o33.2.1).bind fun y220 => some y220) else some o193).bind fun o213 => ((post_told o213).bind fun y235 => some (y235.1, y235.2)))))) (fun q => some q)))
set_option maxRecDepth 100000 in
set_option maxHeartbeats 4000000 in
theorem post_merge_w {S : Nat → Prop} {w : World} {a0 : List Int} {a1 : List Int} {a2 : Bool} {a3 : Bool} {a4 : Bool} {v0 v1 : Value} {r : (List Int) × Int} (hS : Sb S w) (h0 : Sl (kSl (kI .i64)) S w v0 a0) (h1 : Sl (kSl (kI .i64)) S w v1 a1) (h : post_merge a0 a1 a2 a3 a4 = some r) :
    Calls Tryz.prog 95 (List.toArray [v0, v1, .bool a2, .bool a3, .bool a4]) w fun e w1 => ∃ S1 u0, e = .returned (.tuple (List.toArray [u0, .int .i64 r.2])) ∧ Cx No S w S1 w1 ∧ Sl (kSl (kI .i64)) S1 w1 u0 r.1 := by
  refine enter Tryz.func95 rfl (by kernel_rfl) rfl ?_
  have C := Cx.refl (F := No) hS
  unfold post_merge at h
  refine cw_seq fun K1 k2 => ?_
  refine cw_region (sv (asv (.slice none 0 0) rfl) (sv (asv (.int .i64 0) rfl) (W.e (k2 _ _ ?_))))
  obtain ⟨o3, h6, h⟩ := bnds_some h
  refine cw_seq' (fun ρ w1 => ∃ o3n, o3 = (.inl o3n) ∧ ∃ S1, Cx No S w S1 w1 ∧ Has ρ [(0, v0), (1, v1), (2, .bool a2), (3, .bool a3), (4, .bool a4)] ∧ Sl (kSl (kI .i64)) S1 w1 v0 a0 ∧ Sl (kSl (kI .i64)) S1 w1 v1 a1) ?_ ?_
  · obtain ⟨o7, h10, h6⟩ := bnd_some h6
    refine cw_seq' (fun ρ w1 => ∃ S1, Cx No S w S1 w1 ∧ Has ρ [(0, v0), (1, v1), (2, .bool a2), (3, .bool a3), (4, .bool a4), (22, .bool o7)] ∧ Sl (kSl (kI .i64)) S1 w1 v0 a0 ∧ Sl (kSl (kI .i64)) S1 w1 v1 a1) ?_ ?_
    · refine cw_region (sv (mvv v0 rfl) ?_)
      obtain ⟨y11, h12, h10⟩ := bnd_some h10
      refine sc (dc_call (vs := [v0]) can122 rfl ?_)
      refine (post_Right_w C.sb h0 h12).mono ?_
      rintro _ w13 ⟨S14, rfl, c15⟩
      refine ⟨_, rfl, ?_⟩
      replace h0 := h0.cx c15
      replace h1 := h1.cx c15
      replace C := C.trans c15
      refine sv (rv_not rfl) (sv (mvv (.bool (!y11)) rfl) ?_)
      rcases bif_some h10 with ⟨b16, h10⟩ | ⟨b16, h10⟩
      · refine W.n (gn rfl rfl rfl b16) (W.n (gn rfl rfl rfl b16) (W.n (gn rfl rfl rfl b16) (sv (ptk (.bool true) rfl b16 rfl) (W.e ?_))))
        obtain rfl := Option.some.inj h10
        exact ⟨_, C, ⟨rfl, rfl, rfl, rfl, rfl, rfl, trivial⟩, h0, h1⟩
      · refine W.v (gy rfl rfl rfl b16) (mvv v1 rfl) ?_
        obtain ⟨y17, h18, h10⟩ := bnd_some h10
        refine W.c (gy rfl rfl rfl b16) (dc_call (vs := [v1]) can122 rfl ?_)
        refine (post_Right_w C.sb h1 h18).mono ?_
        rintro _ w19 ⟨S20, rfl, c21⟩
        refine ⟨_, rfl, ?_⟩
        replace h0 := h0.cx c21
        replace h1 := h1.cx c21
        replace C := C.trans c21
        refine W.v (gy rfl rfl rfl b16) (rv_not rfl) (sv (pfk (.bool (!y17)) rfl b16 rfl) (W.e ?_))
        obtain rfl := Option.some.inj h10
        exact ⟨_, C, ⟨rfl, rfl, rfl, rfl, rfl, rfl, trivial⟩, h0, h1⟩
    · rintro ρ w23 ⟨S22, C, h24, h0, h1⟩
      refine h24.cw fun ρ => ?_
      clear h24
      rcases bif_some h6 with ⟨b25, h6⟩ | ⟨b25, h6⟩
      · refine cw_t rfl b25 ?_
        refine cw_seq fun K26 k27 => ?_
        refine cw_region (sv (asv (.slice none 0 0) rfl) (sv (asv (.int .i64 1) rfl) (W.e (k27 _ _ (cw_ret ?_)))))
        obtain rfl := Option.some.inj h6
        replace h := h.2 _ rfl
        obtain rfl := Option.some.inj h
        exact ⟨_, rfl, _, _, rfl, C, (sl_nil _ _ _)⟩
      · refine cw_f rfl b25 (cw_skip ?_)
        obtain rfl := Option.some.inj h6
        exact ⟨_, rfl, ⟨_, C, ⟨rfl, rfl, rfl, rfl, rfl, trivial⟩, h0, h1⟩⟩
  · rintro ρ w29 ⟨o3n, rfl, ⟨S28, C, h30, h0, h1⟩⟩
    replace h := h.1 _ rfl
    refine h30.cw fun ρ => ?_
    clear h30
    refine cw_seq fun K31 k32 => ?_
    refine cw_region (sv (asv (.slice none 0 0) rfl) (W.e (k32 _ _ ?_)))
    obtain ⟨o33, h36, h⟩ := bnd_some h
    refine cw_seq' (fun ρ w1 => ∃ S1 v186 v188 v190, Cx No S w S1 w1 ∧ Has ρ [(0, v186), (1, v188), (2, .bool a2), (4, .bool a4), (12, v190)] ∧ Sl (kSl (kI .i64)) S1 w1 v186 o33.1 ∧ Sl (kSl (kI .i64)) S1 w1 v188 o33.2.1 ∧ Ow (kI .i64) 3 S1 w.heap.size w1 v190 o33.2.2) ?_ ?_
    · refine cw_block ?_
      refine cw_iter h36 (fun s ρ w1 => ∃ S1 v40 v42 v44, Cx No S w S1 w1 ∧ Has ρ [(0, v40), (1, v42), (2, .bool a2), (3, .bool a3), (4, .bool a4), (12, v44)] ∧ Sl (kSl (kI .i64)) S1 w1 v40 s.1 ∧ Sl (kSl (kI .i64)) S1 w1 v42 s.2.1 ∧ Ow (kI .i64) 3 S1 w.heap.size w1 v44 s.2.2) ⟨_, _, _, _, C, ⟨rfl, rfl, rfl, rfl, rfl, rfl, trivial⟩, h0, h1, Ow.nil _ _ _ _ _⟩ ?_
      rintro ⟨x47, x48, x49⟩ q37 ρ w39 ⟨S38, v40, v42, v44, C, h46, h41, h43, h45⟩ h51 h50
      refine h46.cw fun ρ => ?_
      clear h46
      replace h51 : post_merge.b4 a2 a3 a4 x47 x48 x49 = some q37 := h51
      unfold post_merge.b4 at h51
      obtain ⟨o52, h55, h51⟩ := bnds_some h51
      refine cw_seq' (fun ρ w1 => ∃ o52n, o52 = (.inl o52n) ∧ ∃ S1, Cx No S w S1 w1 ∧ Has ρ [(0, v40), (1, v42), (2, .bool a2), (3, .bool a3), (4, .bool a4), (12, v44)] ∧ Sl (kSl (kI .i64)) S1 w1 v40 x47 ∧ Sl (kSl (kI .i64)) S1 w1 v42 x48 ∧ Ow (kI .i64) 3 S1 w.heap.size w1 v44 x49) ?_ ?_
      · obtain ⟨o56, h59, h55⟩ := bnd_some h55
        refine cw_seq' (fun ρ w1 => ∃ S1, Cx No S w S1 w1 ∧ Has ρ [(0, v40), (1, v42), (2, .bool a2), (3, .bool a3), (4, .bool a4), (12, v44), (30, .bool o56)] ∧ Sl (kSl (kI .i64)) S1 w1 v40 x47 ∧ Sl (kSl (kI .i64)) S1 w1 v42 x48 ∧ Ow (kI .i64) 3 S1 w.heap.size w1 v44 x49) ?_ ?_
        · refine cw_region (sv (mvv v40 rfl) (sv (rv_lenS el49 h41 rfl) (sv (rv_gtr rfl rfl) (sv (mvv (.bool (decide ((0 : Int) < (x47.length : Int)))) rfl) ?_))))
          rcases bif_some h59 with ⟨b60, h59⟩ | ⟨b60, h59⟩
          · refine W.v (gy rfl rfl rfl b60) (mvv v42 rfl) (W.v (gy rfl rfl rfl b60) (rv_lenS el49 h43 rfl) (W.v (gy rfl rfl rfl b60) (rv_gtr rfl rfl) (sv (ptk (.bool (decide ((0 : Int) < (x48.length : Int)))) rfl b60 rfl) (W.e ?_))))
            obtain rfl := Option.some.inj h59
            exact ⟨_, C, ⟨rfl, rfl, rfl, rfl, rfl, rfl, rfl, trivial⟩, h41, h43, h45⟩
          · refine W.n (gn rfl rfl rfl b60) (W.n (gn rfl rfl rfl b60) (W.n (gn rfl rfl rfl b60) (sv (pfk (.bool false) rfl b60 rfl) (W.e ?_))))
            obtain rfl := Option.some.inj h59
            exact ⟨_, C, ⟨rfl, rfl, rfl, rfl, rfl, rfl, rfl, trivial⟩, h41, h43, h45⟩
        · rintro ρ w62 ⟨S61, C, h63, h41, h43, h45⟩
          refine h63.cw fun ρ => ?_
          clear h63
          rcases bif_some h55 with ⟨b64, h55⟩ | ⟨b64, h55⟩
          · refine cw_t rfl b64 (cw_skip ?_)
            obtain rfl := Option.some.inj h55
            exact ⟨_, rfl, ⟨_, C, ⟨rfl, rfl, rfl, rfl, rfl, rfl, trivial⟩, h41, h43, h45⟩⟩
          · refine cw_f rfl b64 (cw_exit ?_)
            obtain rfl := Option.some.inj h55
            replace h51 := h51.2 _ rfl
            obtain rfl := Option.some.inj h51
            have h65 := congrArg some h50
            obtain rfl := Option.some.inj h65
            exact ⟨_, _, _, _, C, ⟨rfl, rfl, rfl, rfl, rfl, trivial⟩, h41, h43, h45⟩
      · rintro ρ w67 ⟨o52n, rfl, ⟨S66, C, h68, h41, h43, h45⟩⟩
        replace h51 := h51.1 _ rfl
        refine h68.cw fun ρ => ?_
        clear h68
        refine cw_block ?_
        refine cw_seq fun K69 k70 => ?_
        refine cw_drawU (.one 0 true (.one 1 true (.one 2 true (.one 3 true (.one 4 true (.one 5 true (.one 6 true (.one 7 true .done)))))))) [(2, [9]), (5, [9])] [] (fun c => bif Nat.beq c 9 then (fun _ => True) else No) fol (by kernel_rfl) fun w71 u72 => ?_
        replace h41 := h41.nw u72
        replace h43 := h43.nw u72
        replace h45 := h45.nw u72
        replace C := C.new u72
        have m73 := Sm.refl (fun _ => True) w71
        refine mtv rfl rfl (mvv v40 rfl) ?_
        obtain ⟨y74, h75, h51⟩ := bnd_some h51
        refine mtv rfl rfl (rv_index el49 h41 rfl rfl h75) (mtr rfl rfl ⟨m73, trivial⟩ (fun w' hq => rw_loadC el49 h41 h75 rfl w' (hq.1.mono fun _ _ => trivial)) (mtv rfl rfl (mvv v42 rfl) ?_))
        obtain ⟨y76, h77, h51⟩ := bnd_some h51
        refine mtv rfl rfl (rv_index el49 h43 rfl rfl h77) (mtr rfl rfl ⟨m73, trivial⟩ (fun w' hq => rw_loadC el49 h43 h77 rfl w' (hq.1.mono fun _ _ => trivial)) (mtv rfl rfl (asv (.int .i64 y74) rfl) (mtv rfl rfl (asv (.int .i64 y76) rfl) (MT.e (k70 _ _ (cw_block ?_))))))
        refine cw_seq fun K78 k79 => ?_
        refine cw_region (sv (mvv (.int .i64 y74) rfl) (sv (mvv (.int .i64 y76) rfl) (sv (rv_lss rfl rfl) (sv (asv (.bool (decide (y74 < y76))) rfl) (W.e (k79 _ _ ?_))))))
        rcases bif_some h51 with ⟨b80, h51⟩ | ⟨b80, h51⟩
        · refine cw_t rfl b80 ?_
          obtain ⟨o81, h84, h51⟩ := bnd_some h51
          refine cw_seq' (fun ρ w1 => ∃ S1 v104, Cx No S w S1 w1 ∧ Has ρ [(0, v40), (1, v42), (2, .bool a2), (3, .bool a3), (4, .bool a4), (12, v104)] ∧ Sl (kSl (kI .i64)) S1 w1 v40 x47 ∧ Sl (kSl (kI .i64)) S1 w1 v42 x48 ∧ Ow (kI .i64) 3 S1 w.heap.size w1 v104 o81) ?_ ?_
          · refine cw_seq fun K85 k86 => ?_
            refine cw_region (sv (mvv (.bool a2) rfl) (W.e (k86 _ _ ?_)))
            rcases bif_some h84 with ⟨b87, h84⟩ | ⟨b87, h84⟩
            · refine cw_t rfl b87 (cw_region (sv (mvv v44 rfl) (sv (mvv (.int .i64 y74) rfl) ?_)))
              refine sc (dc_lit (vs := [.int .i64 y74]) (xs := ([y74] : List Int)) (base := w.heap.size) el49 rfl rfl (.cons (sl_sc.2 rfl) (.nil)) (Nat.le_of_ble_eq_true rfl) C.up.size C.sb fun v88 w89 h90 h91 u92 => ?_)
              have p93 := ap_fresh h91 (fun b hb => (h45.lt b hb).2)
              replace h41 := h41.nw u92
              replace h43 := h43.nw u92
              replace h45 := h45.nw u92
              replace C := C.new u92
              obtain ⟨y94, h95, h84⟩ := bnd_some h84
              have h101 := h45
              refine sc (dc_append el49 (by decide) h101 h90.src rfl rfl h95 C.up.size C.sb fun v96 w97 h98 u99 h100 => ?_)
              replace h41 := h41.wr u99 h101.not
              replace h43 := h43.wr u99 h101.not
              replace C := C.ow h101 u99
              refine sv (asv v96 rfl) (W.e ?_)
              obtain rfl := Option.some.inj h84
              exact ⟨_, _, C, ⟨rfl, rfl, rfl, rfl, rfl, rfl, trivial⟩, h41, h43, h98⟩
            · refine cw_f rfl b87 (cw_skip ?_)
              obtain rfl := Option.some.inj h84
              exact ⟨_, _, C, ⟨rfl, rfl, rfl, rfl, rfl, rfl, trivial⟩, h41, h43, h45⟩
          · rintro ρ w103 ⟨S102, v104, C, h106, h41, h43, h105⟩
            refine h106.cw fun ρ => ?_
            clear h106
            refine cw_region (sv (mvv v40 rfl) ?_)
            obtain ⟨y107, h108, h51⟩ := bnd_some h51
            obtain ⟨v109, h110, h111⟩ := rv_fromA (P := Tryz.prog) el49 h41 h108
            refine sv (h111 rfl rfl) (sv (asv v109 rfl) (W.e ?_))
            obtain rfl := Option.some.inj h51
            exact ⟨_, rfl, ⟨_, _, _, _, C, ⟨rfl, rfl, rfl, rfl, rfl, rfl, trivial⟩, h110, h43, h105⟩⟩
        · refine cw_f rfl b80 ?_
          refine cw_seq fun K112 k113 => ?_
          refine cw_region (sv (mvv (.int .i64 y74) rfl) (sv (mvv (.int .i64 y76) rfl) (sv (rv_gtr rfl rfl) (sv (asv (.bool (decide (y76 < y74))) rfl) (W.e (k113 _ _ ?_))))))
          rcases bif_some h51 with ⟨b114, h51⟩ | ⟨b114, h51⟩
          · refine cw_t rfl b114 ?_
            obtain ⟨o115, h118, h51⟩ := bnd_some h51
            refine cw_seq' (fun ρ w1 => ∃ S1 v138, Cx No S w S1 w1 ∧ Has ρ [(0, v40), (1, v42), (2, .bool a2), (3, .bool a3), (4, .bool a4), (12, v138)] ∧ Sl (kSl (kI .i64)) S1 w1 v40 x47 ∧ Sl (kSl (kI .i64)) S1 w1 v42 x48 ∧ Ow (kI .i64) 3 S1 w.heap.size w1 v138 o115) ?_ ?_
            · refine cw_seq fun K119 k120 => ?_
              refine cw_region (sv (mvv (.bool a4) rfl) (W.e (k120 _ _ ?_)))
              rcases bif_some h118 with ⟨b121, h118⟩ | ⟨b121, h118⟩
              · refine cw_t rfl b121 (cw_region (sv (mvv v44 rfl) (sv (mvv (.int .i64 y76) rfl) ?_)))
                refine sc (dc_lit (vs := [.int .i64 y76]) (xs := ([y76] : List Int)) (base := w.heap.size) el49 rfl rfl (.cons (sl_sc.2 rfl) (.nil)) (Nat.le_of_ble_eq_true rfl) C.up.size C.sb fun v122 w123 h124 h125 u126 => ?_)
                have p127 := ap_fresh h125 (fun b hb => (h45.lt b hb).2)
                replace h41 := h41.nw u126
                replace h43 := h43.nw u126
                replace h45 := h45.nw u126
                replace C := C.new u126
                obtain ⟨y128, h129, h118⟩ := bnd_some h118
                have h135 := h45
                refine sc (dc_append el49 (by decide) h135 h124.src rfl rfl h129 C.up.size C.sb fun v130 w131 h132 u133 h134 => ?_)
                replace h41 := h41.wr u133 h135.not
                replace h43 := h43.wr u133 h135.not
                replace C := C.ow h135 u133
                refine sv (asv v130 rfl) (W.e ?_)
                obtain rfl := Option.some.inj h118
                exact ⟨_, _, C, ⟨rfl, rfl, rfl, rfl, rfl, rfl, trivial⟩, h41, h43, h132⟩
              · refine cw_f rfl b121 (cw_skip ?_)
                obtain rfl := Option.some.inj h118
                exact ⟨_, _, C, ⟨rfl, rfl, rfl, rfl, rfl, rfl, trivial⟩, h41, h43, h45⟩
            · rintro ρ w137 ⟨S136, v138, C, h140, h41, h43, h139⟩
              refine h140.cw fun ρ => ?_
              clear h140
              refine cw_region (sv (mvv v42 rfl) ?_)
              obtain ⟨y141, h142, h51⟩ := bnd_some h51
              obtain ⟨v143, h144, h145⟩ := rv_fromA (P := Tryz.prog) el49 h43 h142
              refine sv (h145 rfl rfl) (sv (asv v143 rfl) (W.e ?_))
              obtain rfl := Option.some.inj h51
              exact ⟨_, rfl, ⟨_, _, _, _, C, ⟨rfl, rfl, rfl, rfl, rfl, rfl, trivial⟩, h41, h144, h139⟩⟩
          · refine cw_f rfl b114 ?_
            obtain ⟨o146, h149, h51⟩ := bnd_some h51
            refine cw_seq' (fun ρ w1 => ∃ S1 v169, Cx No S w S1 w1 ∧ Has ρ [(0, v40), (1, v42), (2, .bool a2), (3, .bool a3), (4, .bool a4), (12, v169)] ∧ Sl (kSl (kI .i64)) S1 w1 v40 x47 ∧ Sl (kSl (kI .i64)) S1 w1 v42 x48 ∧ Ow (kI .i64) 3 S1 w.heap.size w1 v169 o146) ?_ ?_
            · refine cw_seq fun K150 k151 => ?_
              refine cw_region (sv (mvv (.bool a3) rfl) (W.e (k151 _ _ ?_)))
              rcases bif_some h149 with ⟨b152, h149⟩ | ⟨b152, h149⟩
              · refine cw_t rfl b152 (cw_region (sv (mvv v44 rfl) (sv (mvv (.int .i64 y74) rfl) ?_)))
                refine sc (dc_lit (vs := [.int .i64 y74]) (xs := ([y74] : List Int)) (base := w.heap.size) el49 rfl rfl (.cons (sl_sc.2 rfl) (.nil)) (Nat.le_of_ble_eq_true rfl) C.up.size C.sb fun v153 w154 h155 h156 u157 => ?_)
                have p158 := ap_fresh h156 (fun b hb => (h45.lt b hb).2)
                replace h41 := h41.nw u157
                replace h43 := h43.nw u157
                replace h45 := h45.nw u157
                replace C := C.new u157
                obtain ⟨y159, h160, h149⟩ := bnd_some h149
                have h166 := h45
                refine sc (dc_append el49 (by decide) h166 h155.src rfl rfl h160 C.up.size C.sb fun v161 w162 h163 u164 h165 => ?_)
                replace h41 := h41.wr u164 h166.not
                replace h43 := h43.wr u164 h166.not
                replace C := C.ow h166 u164
                refine sv (asv v161 rfl) (W.e ?_)
                obtain rfl := Option.some.inj h149
                exact ⟨_, _, C, ⟨rfl, rfl, rfl, rfl, rfl, rfl, trivial⟩, h41, h43, h163⟩
              · refine cw_f rfl b152 (cw_skip ?_)
                obtain rfl := Option.some.inj h149
                exact ⟨_, _, C, ⟨rfl, rfl, rfl, rfl, rfl, rfl, trivial⟩, h41, h43, h45⟩
            · rintro ρ w168 ⟨S167, v169, C, h171, h41, h43, h170⟩
              refine h171.cw fun ρ => ?_
              clear h171
              refine cw_drawU (.one 0 true (.one 1 true (.one 2 true (.one 3 true (.one 4 true (.one 5 true .done)))))) [] [] (fun c => No) fol (by kernel_rfl) fun w172 u173 => ?_
              replace h41 := h41.nw u173
              replace h43 := h43.nw u173
              replace h170 := h170.nw u173
              replace C := C.new u173
              refine mtv rfl rfl (mvv v40 rfl) ?_
              obtain ⟨y174, h175, h51⟩ := bnd_some h51
              obtain ⟨v176, h177, h178⟩ := rv_fromA (P := Tryz.prog) el49 h41 h175
              refine mtv rfl rfl (h178 rfl rfl) (mtv rfl rfl (mvv v42 rfl) ?_)
              obtain ⟨y179, h180, h51⟩ := bnd_some h51
              obtain ⟨v181, h182, h183⟩ := rv_fromA (P := Tryz.prog) el49 h43 h180
              refine mtv rfl rfl (h183 rfl rfl) (mtv rfl rfl (asv v176 rfl) (mtv rfl rfl (asv v181 rfl) (MT.e ?_)))
              obtain rfl := Option.some.inj h51
              exact ⟨_, rfl, ⟨_, _, _, _, C, ⟨rfl, rfl, rfl, rfl, rfl, rfl, trivial⟩, h177, h182, h170⟩⟩
    · rintro ρ w185 ⟨S184, v186, v188, v190, C, h192, h187, h189, h191⟩
      refine h192.cw fun ρ => ?_
      clear h192
      obtain ⟨o193, h196, h⟩ := bnd_some h
      refine cw_seq' (fun ρ w1 => ∃ S1 v210, Cx No S w S1 w1 ∧ Has ρ [(1, v188), (4, .bool a4), (12, v210)] ∧ Sl (kSl (kI .i64)) S1 w1 v188 o33.2.1 ∧ Ow (kI .i64) 3 S1 w.heap.size w1 v210 o193) ?_ ?_
      · refine cw_seq fun K197 k198 => ?_
        refine cw_region (sv (mvv (.bool a2) rfl) (W.e (k198 _ _ ?_)))
        rcases bif_some h196 with ⟨b199, h196⟩ | ⟨b199, h196⟩
        · refine cw_t rfl b199 (cw_region (sv (mvv v190 rfl) (sv (mvv v186 rfl) ?_)))
          obtain ⟨y200, h201, h196⟩ := bnd_some h196
          have h207 := h191
          refine sc (dc_append el49 (by decide) h207 (h187.src fun _ h => h) rfl rfl h201 C.up.size C.sb fun v202 w203 h204 u205 h206 => ?_)
          replace h189 := h189.wr u205 h207.not
          replace C := C.ow h207 u205
          refine sv (asv v202 rfl) (W.e ?_)
          obtain rfl := Option.some.inj h196
          exact ⟨_, _, C, ⟨rfl, rfl, rfl, trivial⟩, h189, h204⟩
        · refine cw_f rfl b199 (cw_skip ?_)
          obtain rfl := Option.some.inj h196
          exact ⟨_, _, C, ⟨rfl, rfl, rfl, trivial⟩, h189, h191⟩
      · rintro ρ w209 ⟨S208, v210, C, h212, h189, h211⟩
        refine h212.cw fun ρ => ?_
        clear h212
        obtain ⟨o213, h216, h⟩ := bnd_some h
        refine cw_seq' (fun ρ w1 => ∃ S1 v230, Cx No S w S1 w1 ∧ Has ρ [(12, v230)] ∧ Ow (kI .i64) 3 S1 w.heap.size w1 v230 o213) ?_ ?_
        · refine cw_seq fun K217 k218 => ?_
          refine cw_region (sv (mvv (.bool a4) rfl) (W.e (k218 _ _ ?_)))
          rcases bif_some h216 with ⟨b219, h216⟩ | ⟨b219, h216⟩
          · refine cw_t rfl b219 (cw_region (sv (mvv v210 rfl) (sv (mvv v188 rfl) ?_)))
            obtain ⟨y220, h221, h216⟩ := bnd_some h216
            have h227 := h211
            refine sc (dc_append el49 (by decide) h227 (h189.src fun _ h => h) rfl rfl h221 C.up.size C.sb fun v222 w223 h224 u225 h226 => ?_)
            replace C := C.ow h227 u225
            refine sv (asv v222 rfl) (W.e ?_)
            obtain rfl := Option.some.inj h216
            exact ⟨_, _, C, ⟨rfl, trivial⟩, h224⟩
          · refine cw_f rfl b219 (cw_skip ?_)
            obtain rfl := Option.some.inj h216
            exact ⟨_, _, C, ⟨rfl, trivial⟩, h211⟩
        · rintro ρ w229 ⟨S228, v230, C, h232, h231⟩
          refine h232.cw fun ρ => ?_
          clear h232
          refine cw_seq fun K233 k234 => ?_
          refine cw_region (sv (mvv v230 rfl) ?_)
          replace C := C.sealO h231
          replace h231 := h231.sealed
          obtain ⟨y235, h236, h⟩ := bnd_some h
          refine sc (dc_call (vs := [v230]) can123 rfl ?_)
          refine (post_told_w C.sb h231 h236).mono ?_
          rintro _ w237 ⟨S238, v240, rfl, c239, h241⟩
          refine ⟨_, rfl, ?_⟩
          replace C := C.trans c239
          refine sv (rv_extract rfl rfl) (sv (rv_extract rfl rfl) (sv (asv v240 rfl) (sv (asv (.int .i64 y235.2) rfl) (W.e (k234 _ _ (cw_ret ?_))))))
          obtain rfl := Option.some.inj h
          exact ⟨_, rfl, _, _, rfl, C, h241⟩

noncomputable def post_Or (a0 : List Int) (a1 : List Int) : Option ((List Int) × Int) :=
  ((post_merge a0 a1 true true true).bind fun y5 => some (y5.1, y5.2))
set_option maxRecDepth 100000 in
set_option maxHeartbeats 4000000 in
theorem post_Or_w {S : Nat → Prop} {w : World} {a0 : List Int} {a1 : List Int} {v0 v1 : Value} {r : (List Int) × Int} (hS : Sb S w) (h0 : Sl (kSl (kI .i64)) S w v0 a0) (h1 : Sl (kSl (kI .i64)) S w v1 a1) (h : post_Or a0 a1 = some r) :
    Calls Tryz.prog 93 (List.toArray [v0, v1]) w fun e w1 => ∃ S1 u0, e = .returned (.tuple (List.toArray [u0, .int .i64 r.2])) ∧ Cx No S w S1 w1 ∧ Sl (kSl (kI .i64)) S1 w1 u0 r.1 := by
  refine enter Tryz.func93 rfl (by kernel_rfl) rfl ?_
  have C := Cx.refl (F := No) hS
  unfold post_Or at h
  refine cw_seq fun K1 k2 => ?_
  refine cw_region (sv (asv (.slice none 0 0) rfl) (sv (asv (.int .i64 0) rfl) (W.e (k2 _ _ ?_))))
  refine cw_seq fun K3 k4 => ?_
  refine cw_region (sv (mvv v0 rfl) (sv (mvv v1 rfl) ?_))
  obtain ⟨y5, h6, h⟩ := bnd_some h
  refine sc (dc_call (vs := [v0, v1, .bool true, .bool true, .bool true]) can95 rfl ?_)
  refine (post_merge_w C.sb h0 h1 h6).mono ?_
  rintro _ w7 ⟨S8, v10, rfl, c9, h11⟩
  refine ⟨_, rfl, ?_⟩
  replace C := C.trans c9
  refine sv (rv_extract rfl rfl) (sv (rv_extract rfl rfl) (sv (asv v10 rfl) (sv (asv (.int .i64 y5.2) rfl) (W.e (k4 _ _ (cw_ret ?_))))))
  obtain rfl := Option.some.inj h
  exact ⟨_, rfl, _, _, rfl, C, h11⟩

noncomputable def post_With (a0 : List Int) (a1 : Int) : Option ((List Int) × Int) :=
  (bif (decide (a1 < (0 : Int))) then some (([] : List Int), (1 : Int)) else ((post_Or a0 ([a1] : List Int)).bind fun y17 => some (y17.1, y17.2)))
set_option maxRecDepth 100000 in
set_option maxHeartbeats 4000000 in
theorem post_With_w {S : Nat → Prop} {w : World} {a0 : List Int} {a1 : Int} {v0 : Value} {r : (List Int) × Int} (hS : Sb S w) (h0 : Sl (kSl (kI .i64)) S w v0 a0) (h : post_With a0 a1 = some r) :
    Calls Tryz.prog 71 (List.toArray [v0, .int .i64 a1]) w fun e w1 => ∃ S1 u0, e = .returned (.tuple (List.toArray [u0, .int .i64 r.2])) ∧ Cx No S w S1 w1 ∧ Sl (kSl (kI .i64)) S1 w1 u0 r.1 := by
  refine enter Tryz.func71 rfl (by kernel_rfl) rfl ?_
  have C := Cx.refl (F := No) hS
  unfold post_With at h
  refine cw_seq fun K1 k2 => ?_
  refine cw_region (sv (asv (.slice none 0 0) rfl) (sv (asv (.int .i64 0) rfl) (W.e (k2 _ _ ?_))))
  refine cw_seq fun K3 k4 => ?_
  refine cw_seq fun K5 k6 => ?_
  refine cw_region (sv (mvv (.int .i64 a1) rfl) (sv (rv_lss rfl rfl) (W.e (k6 _ _ ?_))))
  rcases bif_some h with ⟨b7, h⟩ | ⟨b7, h⟩
  · refine cw_t rfl b7 ?_
    refine cw_seq fun K8 k9 => ?_
    refine cw_region (sv (asv (.slice none 0 0) rfl) (sv (asv (.int .i64 1) rfl) (W.e (k9 _ _ (cw_ret ?_)))))
    obtain rfl := Option.some.inj h
    exact ⟨_, rfl, _, _, rfl, C, (sl_nil _ _ _)⟩
  · refine cw_f rfl b7 (cw_skip (k4 _ _ ?_))
    refine cw_seq fun K10 k11 => ?_
    refine cw_region (sv (mvv v0 rfl) (sv (mvv (.int .i64 a1) rfl) ?_))
    refine sc (dc_lit (vs := [.int .i64 a1]) (xs := ([a1] : List Int)) (base := w.heap.size) el49 rfl rfl (.cons (sl_sc.2 rfl) (.nil)) (Nat.le_of_ble_eq_true rfl) C.up.size C.sb fun v12 w13 h14 h15 u16 => ?_)
    replace h0 := h0.nw u16
    replace C := C.new u16
    replace h0 := h0.or (T := Blk v12)
    replace C := C.sealO h14
    replace h14 := h14.sealed
    obtain ⟨y17, h18, h⟩ := bnd_some h
    refine sc (dc_call (vs := [v0, v12]) can93 rfl ?_)
    refine (post_Or_w C.sb h0 h14 h18).mono ?_
    rintro _ w19 ⟨S20, v22, rfl, c21, h23⟩
    refine ⟨_, rfl, ?_⟩
    replace C := C.trans c21
    refine sv (rv_extract rfl rfl) (sv (rv_extract rfl rfl) (sv (asv v22 rfl) (sv (asv (.int .i64 y17.2) rfl) (W.e (k11 _ _ (cw_ret ?_))))))
    obtain rfl := Option.some.inj h
    exact ⟨_, rfl, _, _, rfl, C, h23⟩

noncomputable def index_Index_put.b1 (a1 : Int) (a2 : List api_Label) (x54 : Int) (x55 : index_Index) : Option ((Int × index_Index) ⊕ (index_Index)) :=
  (bif (decide (x54 < (a2.length : Int))) then ((at_ a2 x54).bind fun y67 => (pur y67 fun y78 => ((post_With ((mget y78 x55.posts).getD ([] : List Int)) a1).bind fun y110 => (pur ({ x55 with posts := (mput y78 y110.1 x55.posts) } : index_Index) fun y121 => ((post_With ((mget y78.Name y121.names).getD ([] : List Int)) a1).bind fun y146 => (pur ({ y121 with names := (mput y78.Name y146.1 y121.names) } : index_Index) fun y157 => (pur (IntKind.i64.wrap (x54 + (1 : Int))) fun y166 => some (.inl (y166, y157))))))))) else some (.inr x55))
noncomputable def index_Index_put (a0 : index_Index) (a1 : Int) (a2 : List api_Label) (a3 : ByteArray) : Option index_Index :=
  (pur ({ a0 with series := (mput a1 a2 a0.series) } : index_Index) fun y22 => (pur ({ y22 with ids := (mput a3 a1 y22.ids) } : index_Index) fun y37 => (iter (fun s : Int × index_Index => index_Index_put.b1 a1 a2 s.1 s.2) ((0 : Int), y37))))
set_option maxRecDepth 100000 in
set_option maxHeartbeats 4000000 in
theorem index_Index_put_w {S : Nat → Prop} {w : World} {a0 : index_Index} {a1 : Int} {a2 : List api_Label} {a3 : ByteArray} {v0 v2 : Value} {cs0 : List Value} {fp0 : List Nat} {r : index_Index} (hS : Sb S w) (h0 : Ob 61 (index_Index.fs a0) S w v0 cs0 fp0) (h2 : Sl (kSl api_Label.k) S w v2 a2) (h : index_Index_put a0 a1 a2 a3 = some r) :
    Calls Tryz.prog 44 (List.toArray [v0, .int .i64 a1, v2, .string a3]) w fun e w1 => ∃ S1 us_0 up_0, e = .returned (.tuple (List.toArray [])) ∧ Cx (fun b => b ∈ fp0) S w S1 w1 ∧ Ob 61 (index_Index.fs r) S1 w1 v0 us_0 up_0 ∧ (∀ b, b ∈ up_0 → b ∈ fp0 ∨ w.heap.size ≤ b) := by
  refine enter Tryz.func44 rfl (by kernel_rfl) rfl ?_
  have C := Cx.refl (F := (fun b => b ∈ fp0)) hS
  unfold index_Index_put at h
  have hs0 : ∀ b, b ∈ fp0 → b ∈ fp0 ∨ w.heap.size ≤ b := fun b hb => .inl hb
  have hl0 : ∀ b ∈ fp0, b < w.heap.size := fun b hb => (h0.lt b hb).1
  refine cw_seq fun K1 k2 => ?_
  obtain ⟨c5, h6⟩ := h0.at (i := 0) rfl
  obtain ⟨c7, h8⟩ := h0.at (i := 1) rfl
  obtain ⟨c9, h10⟩ := h0.at (i := 2) rfl
  obtain ⟨c11, h12⟩ := h0.at (i := 3) rfl
  refine cw_drawU (.one 0 true (.one 1 true (.one 2 true (.one 3 true (.one 4 true (.one 5 true (.one 6 true (.one 7 true (.one 8 true (.one 9 true (.one 10 true (.one 11 true (.one 12 false (.one 13 true (.one 14 false (.one 15 false (.one 16 true (.one 17 false .done)))))))))))))))))) [(3, [10]), (8, [10])] [(12, []), (14, []), (15, []), (17, [])] (fun c => bif Nat.beq c 10 then (One (pb v0)) else No) fol (by kernel_rfl) fun w3 u4 => ?_
  replace h0 := h0.nw u4
  replace h2 := h2.nw u4
  replace C := C.new u4
  have h0d := h0
  have h2d := h2
  have m13 := Sm.refl (One (pb v0)) w3
  refine mtv rfl rfl (mvv v0 rfl) (mtv rfl rfl (rv_nilcheck rfl h0.ptr) (mtv rfl rfl (rv_fieldAddr (b := pb v0) (o := 0) st61 rfl h0.ptr) (mtr rfl rfl ⟨m13, trivial⟩ (fun w' hq => rw_ofieldU (i := 0) (c := c5) h0 hq.1 ag56 h6 rfl) (mtv rfl rfl (mvv (.int .i64 a1) rfl) (mtv rfl rfl (mvv v0 rfl) (mtv rfl rfl (rv_nilcheck rfl h0.ptr) (mtv rfl rfl (rv_fieldAddr (b := pb v0) (o := 0) st61 rfl h0.ptr) (mtr rfl rfl ⟨m13, trivial⟩ (fun w' hq => rw_ofieldU (i := 1) (c := c7) h0 hq.1 ag57 h8 rfl) (mtv rfl rfl (mvv (.string a3) rfl) (mtv rfl rfl (mvv v2 rfl) (mtv rfl rfl (mvv (.int .i64 a1) rfl) ?_)))))))))))
  have h19 : ∀ b, b ∈ fp0 → ¬ S b := fun b hb => (h0.lt b hb).2
  refine mtc rfl rfl (dc_oment (a := a1) h0 (i := 0) rfl h6 Tryz.underlying56 zv31 rfl rfl fun z14 n15 w16 u17 h18 => ?_)
  have c20 := Cx.ofUp C.sb u17
  replace h2 := h2.cf c20 h19
  replace C := C.ofc c20 hs0
  have z21 := (u17).size
  refine ⟨trivial, ?_⟩
  refine mtv rfl rfl (rv_extract rfl rfl) ?_
  obtain ⟨y22, h23, h⟩ := pur_some h
  refine mtc rfl rfl (h18 rfl rfl rfl h2 fun w24 h25 u26 => ?_)
  replace h25 : Ob 61 (index_Index.fs ({ a0 with series := (mput a1 a2 a0.series) } : index_Index)) S w24 v0 cs0 fp0 := h25
  rw [h23] at h25
  have c27 := Cx.ofUp C.sb u26
  replace h2 := h2.cf c27 h19
  replace C := C.ofc c27 hs0
  have z28 := (u26).size
  refine ⟨trivial, ?_⟩
  have h34 : ∀ b, b ∈ fp0 → ¬ S b := fun b hb => (h25.lt b hb).2
  refine mtc rfl rfl (dc_oment (a := a3) h25 (i := 1) rfl h8 Tryz.underlying57 zv3 rfl rfl fun z29 n30 w31 u32 h33 => ?_)
  have c35 := Cx.ofUp C.sb u32
  replace h2 := h2.cf c35 h34
  replace C := C.ofc c35 hs0
  have z36 := (u32).size
  refine ⟨trivial, ?_⟩
  refine mtv rfl rfl (rv_extract rfl rfl) ?_
  obtain ⟨y37, h38, h⟩ := pur_some h
  refine mtc rfl rfl (h33 rfl rfl rfl (sl_sc.2 rfl) fun w39 h40 u41 => ?_)
  replace h40 : Ob 61 (index_Index.fs ({ y22 with ids := (mput a3 a1 y22.ids) } : index_Index)) S w39 v0 cs0 fp0 := h40
  rw [h38] at h40
  have c42 := Cx.ofUp C.sb u41
  replace h2 := h2.cf c42 h34
  replace C := C.ofc c42 hs0
  have z43 := (u41).size
  refine ⟨trivial, ?_⟩
  refine MT.e (k2 _ _ ?_)
  refine cw_seq fun K44 k45 => ?_
  refine cw_region (sv (mvv v2 rfl) (sv (rv_lenS el31 h2 rfl) (sv (mvv (.int .i64 0) rfl) (W.e (k45 _ _ (cw_block ?_))))))
  refine cw_iter h (fun s ρ w1 => ∃ S1 fp50 cs52, Cx (fun b => b ∈ fp0) S w S1 w1 ∧ Has ρ [(0, v0), (1, .int .i64 a1), (26, v2), (27, .int .i64 (a2.length : Int)), (28, .int .i64 s.1)] ∧ Sl (kSl api_Label.k) S1 w1 v2 a2 ∧ Ob 61 (index_Index.fs s.2) S1 w1 v0 cs52 fp50 ∧ (∀ b, b ∈ fp50 → b ∈ fp0 ∨ w.heap.size ≤ b)) ⟨_, _, _, C, ⟨rfl, rfl, rfl, rfl, rfl, trivial⟩, h2, h40, hs0⟩ ?_
  rintro ⟨x54, x55⟩ q46 ρ w48 ⟨S47, fp50, cs52, C, h53, h2, h49, h51⟩ h57 h56
  refine h53.cw fun ρ => ?_
  clear h53
  replace h57 : index_Index_put.b1 a1 a2 x54 x55 = some q46 := h57
  unfold index_Index_put.b1 at h57
  refine cw_seq fun K58 k59 => ?_
  refine cw_region (sv (rv_lss rfl rfl) (W.e (k59 _ _ ?_)))
  refine cw_seq fun K60 k61 => ?_
  rcases bif_some h57 with ⟨b62, h57⟩ | ⟨b62, h57⟩
  · refine cw_t rfl b62 (cw_skip (k61 _ _ ?_))
    refine cw_seq fun K63 k64 => ?_
    refine cw_block ?_
    refine cw_seq fun K65 k66 => ?_
    refine cw_region ?_
    obtain ⟨y67, h68, h57⟩ := bnd_some h57
    refine sv (rv_index el31 h2 rfl rfl h68) ?_
    obtain ⟨v69, h70, h71⟩ := rw_loadA (P := Tryz.prog) el31 h2 h68
    obtain rfl := api_Label.o.1 h70
    refine sr (h71 _ (Sm.refl _ _) rfl) ?_
    refine sc (dc_allocO (x0 := (api_Label.mk ByteArray.empty ByteArray.empty)) (base := w.heap.size) el31 zr46 (fun _ => api_Label.r.2 rfl) C.up.size C.sb fun b72 w73 h74 h75 u76 => ?_)
    have p77 := ap_fresh h75 (fun b hb => (h49.lt b hb).1)
    replace h49 := h49.nw u76
    replace h2 := h2.nw u76
    replace C := C.new u76
    obtain ⟨y78, h79, h57⟩ := pur_some h57
    have h83 := h74
    refine sc (dc_storeO el31 h83 (show at_ [(api_Label.mk ByteArray.empty ByteArray.empty)] (0 : Int) = some (api_Label.mk ByteArray.empty ByteArray.empty) from rfl) rfl rfl (((api_Label.o (x := y67)).2 rfl)) fun w80 h81 u82 => ?_)
    replace h81 : Ow api_Label.k 46 S47 w.heap.size w80 (.slice (some ⟨b72, 0, none⟩) 1 1) [y67] := h81
    rw [h79] at h81
    replace h49 := h49.wr u82 h83.not (ap_symm p77)
    replace h2 := h2.wr u82 h83.not
    replace C := C.ow h83 u82
    refine W.e (k66 _ _ ?_)
    refine cw_seq fun K84 k85 => ?_
    obtain ⟨c88, h89⟩ := h49.at (i := 0) rfl
    obtain ⟨c90, h91⟩ := h49.at (i := 1) rfl
    obtain ⟨c92, h93⟩ := h49.at (i := 2) rfl
    obtain ⟨c94, h95⟩ := h49.at (i := 3) rfl
    refine cw_drawU (.one 0 true (.one 1 true (.one 2 true (.one 3 true (.one 4 true (.one 5 true (.one 6 true (.one 7 true (.one 8 true (.one 9 true (.one 10 true (.one 11 true (.one 12 false (.one 13 true (.one 14 true (.one 15 true (.one 16 false .done))))))))))))))))) [(3, [10]), (4, [1000]), (8, [10]), (9, [1000]), (10, [102])] [(12, [10, 1000]), (16, [])] (fun c => bif Nat.beq c 10 then (One (pb v0)) else bif Nat.beq c 102 then (One (mb c92)) else bif Nat.beq c 1000 then (Or S47 (Blk (.slice (some ⟨b72, 0, none⟩) 1 1))) else No) fol (by kernel_rfl) fun w86 u87 => ?_
    replace h49 := h49.nw u87
    replace h81 := h81.nw u87
    replace h2 := h2.nw u87
    replace C := C.new u87
    have h49d := h49
    have h81d := h81
    have h2d := h2
    have m96 := Sm.refl (One (pb v0)) w86
    have m97 := Sm.refl (One (mb c92)) w86
    have m98 := Sm.refl (Or S47 (Blk (.slice (some ⟨b72, 0, none⟩) 1 1))) w86
    refine mtv rfl rfl (mvv v0 rfl) (mtv rfl rfl (rv_nilcheck rfl h49.ptr) (mtv rfl rfl (rv_fieldAddr (b := pb v0) (o := 0) st61 rfl h49.ptr) (mtr rfl rfl ⟨m96, trivial⟩ (fun w' hq => rw_ofieldU (i := 2) (c := c92) h49 hq.1 ag58 h93 rfl) ?_)))
    obtain ⟨v99, h100, h101⟩ := rw_loadO (P := Tryz.prog) el31 h81 (show at_ [y78] (0 : Int) = some y78 from rfl)
    obtain rfl := api_Label.o.1 h100
    refine mtr rfl rfl ⟨m98, trivial⟩ (fun w' hq => h101 w' hq.1 rfl) (mtv rfl rfl (mvv v0 rfl) (mtv rfl rfl (rv_nilcheck rfl h49.ptr) (mtv rfl rfl (rv_fieldAddr (b := pb v0) (o := 0) st61 rfl h49.ptr) (mtr rfl rfl ⟨m96, trivial⟩ (fun w' hq => rw_ofieldU (i := 2) (c := c92) h49 hq.1 ag58 h93 rfl) ?_))))
    obtain ⟨v102, h103, h104⟩ := rw_loadO (P := Tryz.prog) el31 h81 (show at_ [y78] (0 : Int) = some y78 from rfl)
    obtain rfl := api_Label.o.1 h103
    refine mtr rfl rfl ⟨m98, trivial⟩ (fun w' hq => h104 w' hq.1 rfl) ?_
    obtain ⟨_, h105, h106⟩ := Ob.rep h49 (i := 2) rfl h93
    obtain ⟨v107, h108, h109⟩ := rep_look (P := Tryz.prog) (tm := 58) (te := 49) (y0 := ([] : List Int)) h105 Tryz.underlying58 zv49 (sl_nil _ _ _) y78
    refine mtr rfl rfl ⟨m97, trivial⟩ (fun w' hq => (h109 hq.1 rfl rfl).1) (mtv rfl rfl (mvv (.int .i64 a1) rfl) ?_)
    obtain ⟨y110, h111, h57⟩ := bnd_some h57
    refine mtc rfl rfl (dc_call (vs := [v107, .int .i64 a1]) can71 rfl ?_)
    refine (post_With_w C.sb h108 h111).mono ?_
    rintro _ w112 ⟨S113, v115, rfl, c114, h116⟩
    refine ⟨_, rfl, ?_⟩
    replace h49 := h49.cx c114
    replace h81 := h81.cx c114
    replace h2 := h2.cx c114
    replace C := C.trans c114
    have z117 := (c114.up).size
    have m118 := m96.nx c114.up (by omega)
    have m119 := m97.nx c114.up (by omega)
    have m120 := m98.nx c114.up (by omega)
    refine ⟨⟨m118, m120, trivial⟩, ?_⟩
    refine mtv rfl rfl (mvv (.tuple (List.toArray [v115, .int .i64 y110.2])) rfl) (mtv rfl rfl (rv_extract rfl rfl) (mtv rfl rfl (rv_extract rfl rfl) ?_))
    obtain ⟨y121, h122, h57⟩ := pur_some h57
    have h127 : ∀ b, b ∈ fp50 → ¬ S113 b := fun b hb => (h49.lt b hb).2
    refine mtc rfl rfl (dc_omset (a := y78) h49 (i := 2) rfl h93 Tryz.underlying58 rfl rfl rfl h116 fun w123 h124 u125 => ?_)
    replace h124 : Ob 61 (index_Index.fs ({ x55 with posts := (mput y78 y110.1 x55.posts) } : index_Index)) S113 w123 v0 cs52 fp50 := h124
    rw [h122] at h124
    have c126 := Cx.ofUp C.sb u125
    replace h81 := h81.cf c126 h127 p77
    replace h2 := h2.cf c126 h127
    replace C := C.ofc c126 h51
    have z128 := (u125).size
    have m129 := m120.wrC u125 (by omega) (fun b hb hs => hs.elim ((fun b hb hs => h127 b hb ((fun b h => c114.ge.le b h) b hs)) b hb) ((ap_symm p77) b hb))
    refine ⟨trivial, ?_⟩
    refine MT.e (k85 _ _ ?_)
    refine cw_drawU (.one 0 true (.one 1 true (.one 2 true (.one 3 true (.one 4 true (.one 5 true (.one 6 true (.one 7 true (.one 8 true (.one 9 true (.one 10 true (.one 11 true (.one 12 true (.one 13 true (.one 14 false (.one 15 true (.one 16 true (.one 17 true (.one 18 false .done))))))))))))))))))) [(3, [10]), (5, [1000]), (9, [10]), (11, [1000]), (12, [103])] [(14, [10, 1000]), (18, [])] (fun c => bif Nat.beq c 10 then (One (pb v0)) else bif Nat.beq c 103 then (One (mb c94)) else bif Nat.beq c 1000 then (Or S113 (Blk (.slice (some ⟨b72, 0, none⟩) 1 1))) else No) fol (by kernel_rfl) fun w130 u131 => ?_
    replace h124 := h124.nw u131
    replace h81 := h81.nw u131
    replace h2 := h2.nw u131
    replace C := C.new u131
    have h124d := h124
    have h81d := h81
    have h2d := h2
    have m132 := Sm.refl (One (pb v0)) w130
    have m133 := Sm.refl (One (mb c94)) w130
    have m134 := Sm.refl (Or S113 (Blk (.slice (some ⟨b72, 0, none⟩) 1 1))) w130
    refine mtv rfl rfl (mvv v0 rfl) (mtv rfl rfl (rv_nilcheck rfl h124.ptr) (mtv rfl rfl (rv_fieldAddr (b := pb v0) (o := 0) st61 rfl h124.ptr) (mtr rfl rfl ⟨m132, trivial⟩ (fun w' hq => rw_ofieldU (i := 3) (c := c94) h124 hq.1 ag59 h95 rfl) (mtv rfl rfl (rv_fieldAddr st46 rfl rfl) ?_))))
    obtain ⟨cs135, h136, h137⟩ := Ow.cellsO h81 (show at_ [y78] (0 : Int) = some y78 from rfl)
    obtain rfl := api_Label.r.1 h136
    refine mtr rfl rfl ⟨m134, trivial⟩ (fun w' hq => rw_el1 (off := 0) ag9 (h137 w' hq.1) rfl rfl) (mtv rfl rfl (mvv v0 rfl) (mtv rfl rfl (rv_nilcheck rfl h124.ptr) (mtv rfl rfl (rv_fieldAddr (b := pb v0) (o := 0) st61 rfl h124.ptr) (mtr rfl rfl ⟨m132, trivial⟩ (fun w' hq => rw_ofieldU (i := 3) (c := c94) h124 hq.1 ag59 h95 rfl) (mtv rfl rfl (rv_fieldAddr st46 rfl rfl) ?_)))))
    obtain ⟨cs138, h139, h140⟩ := Ow.cellsO h81 (show at_ [y78] (0 : Int) = some y78 from rfl)
    obtain rfl := api_Label.r.1 h139
    refine mtr rfl rfl ⟨m134, trivial⟩ (fun w' hq => rw_el1 (off := 0) ag9 (h140 w' hq.1) rfl rfl) ?_
    obtain ⟨_, h141, h142⟩ := Ob.rep h124 (i := 3) rfl h95
    obtain ⟨v143, h144, h145⟩ := rep_look (P := Tryz.prog) (tm := 59) (te := 49) (y0 := ([] : List Int)) h141 Tryz.underlying59 zv49 (sl_nil _ _ _) y78.Name
    refine mtr rfl rfl ⟨m133, trivial⟩ (fun w' hq => (h145 hq.1 rfl rfl).1) (mtv rfl rfl (mvv (.int .i64 a1) rfl) ?_)
    obtain ⟨y146, h147, h57⟩ := bnd_some h57
    refine mtc rfl rfl (dc_call (vs := [v143, .int .i64 a1]) can71 rfl ?_)
    refine (post_With_w C.sb h144 h147).mono ?_
    rintro _ w148 ⟨S149, v151, rfl, c150, h152⟩
    refine ⟨_, rfl, ?_⟩
    replace h124 := h124.cx c150
    replace h2 := h2.cx c150
    replace C := C.trans c150
    have z153 := (c150.up).size
    have m154 := m132.nx c150.up (by omega)
    have m155 := m133.nx c150.up (by omega)
    have m156 := m134.nx c150.up (by omega)
    refine ⟨⟨m154, m156, trivial⟩, ?_⟩
    refine mtv rfl rfl (mvv (.tuple (List.toArray [v151, .int .i64 y146.2])) rfl) (mtv rfl rfl (rv_extract rfl rfl) (mtv rfl rfl (rv_extract rfl rfl) ?_))
    obtain ⟨y157, h158, h57⟩ := pur_some h57
    have h163 : ∀ b, b ∈ fp50 → ¬ S149 b := fun b hb => (h124.lt b hb).2
    refine mtc rfl rfl (dc_omset (a := y78.Name) h124 (i := 3) rfl h95 Tryz.underlying59 rfl rfl rfl h152 fun w159 h160 u161 => ?_)
    replace h160 : Ob 61 (index_Index.fs ({ y121 with names := (mput y78.Name y146.1 y121.names) } : index_Index)) S149 w159 v0 cs52 fp50 := h160
    rw [h158] at h160
    have c162 := Cx.ofUp C.sb u161
    replace h2 := h2.cf c162 h163
    replace C := C.ofc c162 h51
    have z164 := (u161).size
    have m165 := m156.wrC u161 (by omega) (fun b hb hs => hs.elim ((fun b hb hs => h163 b hb ((fun b h => c150.ge.le b h) b hs)) b hb) ((ap_symm p77) b hb))
    refine ⟨trivial, ?_⟩
    refine MT.e (k64 _ _ (cw_region ?_))
    obtain ⟨y166, h167, h57⟩ := pur_some h57
    refine sv (rv_add rfl rfl h167) (sv (mvv (.int .i64 y166) rfl) (W.e ?_))
    obtain rfl := Option.some.inj h57
    exact ⟨_, rfl, ⟨_, _, _, C, ⟨rfl, rfl, rfl, rfl, rfl, trivial⟩, h2, h160, h51⟩⟩
  · refine cw_f rfl b62 (cw_exit ?_)
    obtain rfl := Option.some.inj h57
    have h168 := congrArg some h56
    obtain rfl := Option.some.inj h168
    exact ⟨_, rfl, _, _, _, rfl, C, h49, h51⟩

end Go.Proofs.YtikdgllagijidaaGreat
