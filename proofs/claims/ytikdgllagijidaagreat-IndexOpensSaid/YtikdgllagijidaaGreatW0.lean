/- What each function computes, and that the program computes it (part 0). Printed by gen.py, a program of this session. -/
import Derived.Test.YtikdgllagijidaaGreatProg
import Derived.Test.YtikdgllagijidaaGreatMgS
import Derived.Test.YtikdgllagijidaaGreatMgV
import Derived.Test.YtikdgllagijidaaGreatMgO
import Derived.Test.YtikdgllagijidaaGreatMgM
import Derived.Test.YtikdgllagijidaaGreatMgI
import Derived.Test.YtikdgllagijidaaGreatMgAr
import Derived.Test.YtikdgllagijidaaGreatMgRg
import Derived.Test.YtikdgllagijidaaGreatMgSt
import Derived.Test.YtikdgllagijidaaGreatMgEn
import Derived.Test.YtikdgllagijidaaGreatMgDf
import Derived.Test.YtikdgllagijidaaGreatMgSi
import Derived.Test.YtikdgllagijidaaGreatMgSs
import Derived.Test.YtikdgllagijidaaGreatMgOp
import Derived.Test.YtikdgllagijidaaGreatMgNo
import Derived.Test.YtikdgllagijidaaGreatShelf
set_option linter.unusedVariables false
set_option maxRecDepth 100000
set_option maxHeartbeats 4000000
namespace Go.Proofs.YtikdgllagijidaaGreat
open Go Go.Mg
structure api_Label where
  Name : ByteArray
  Val : ByteArray

def api_Label.k : Kd api_Label := kIso (kAgg (kPair kS kS)) fun x => (x.Name, x.Val)
theorem api_Label.r {S : Nat → Prop} {w : World} {cs : List Value} {x : api_Label} : api_Label.k.rep S w cs x ↔ cs = [.string x.Name, .string x.Val] := by
  constructor
  · rintro ⟨d0, e0, rfl, h0, h1⟩
    have h0 := rep_sc.1 h0; subst h0
    have h1 := rep_sc.1 h1; subst h1
    rfl
  · rintro rfl
    exact ⟨_, _, rfl, (rep_sc.2 rfl), (rep_sc.2 rfl)⟩
theorem api_Label.o {S : Nat → Prop} {w : World} {v : Value} {x : api_Label} : Sl api_Label.k S w v x ↔ v = .agg (List.toArray [.string x.Name, .string x.Val]) := by
  constructor
  · rintro ⟨cs, rfl, h⟩
    rw [api_Label.r.1 h]; rfl
  · rintro rfl
    exact ⟨_, rfl, api_Label.r.2 rfl⟩

structure api_Ask where
  Op : Int
  Name : ByteArray
  Val : ByteArray

def api_Ask.k : Kd api_Ask := kIso (kAgg (kPair (kI .u8) (kPair kS kS))) fun x => (x.Op, (x.Name, x.Val))
theorem api_Ask.r {S : Nat → Prop} {w : World} {cs : List Value} {x : api_Ask} : api_Ask.k.rep S w cs x ↔ cs = [.int .u8 x.Op, .string x.Name, .string x.Val] := by
  constructor
  · rintro ⟨d0, e0, rfl, h0, ⟨d1, e1, rfl, h1, h2⟩⟩
    have h0 := rep_sc.1 h0; subst h0
    have h1 := rep_sc.1 h1; subst h1
    have h2 := rep_sc.1 h2; subst h2
    rfl
  · rintro rfl
    exact ⟨_, _, rfl, (rep_sc.2 rfl), ⟨_, _, rfl, (rep_sc.2 rfl), (rep_sc.2 rfl)⟩⟩
theorem api_Ask.o {S : Nat → Prop} {w : World} {v : Value} {x : api_Ask} : Sl api_Ask.k S w v x ↔ v = .agg (List.toArray [.int .u8 x.Op, .string x.Name, .string x.Val]) := by
  constructor
  · rintro ⟨cs, rfl, h⟩
    rw [api_Ask.r.1 h]; rfl
  · rintro rfl
    exact ⟨_, rfl, api_Ask.r.2 rfl⟩

structure marigraphlaw08_Act where
  Kind : Int
  Id : Int
  L : List api_Label
  A : List api_Ask

def marigraphlaw08_Act.k : Kd marigraphlaw08_Act := kIso (kAgg (kPair (kI .u8) (kPair (kI .i64) (kPair (kSl api_Label.k) (kSl api_Ask.k))))) fun x => (x.Kind, (x.Id, (x.L, x.A)))
theorem marigraphlaw08_Act.r {S : Nat → Prop} {w : World} {cs : List Value} {x : marigraphlaw08_Act} : marigraphlaw08_Act.k.rep S w cs x ↔ ∃ c2 c3 : Value, cs = [.int .u8 x.Kind, .int .i64 x.Id, c2, c3] ∧ Sl (kSl api_Label.k) S w c2 x.L ∧ Sl (kSl api_Ask.k) S w c3 x.A := by
  constructor
  · rintro ⟨d0, e0, rfl, h0, ⟨d1, e1, rfl, h1, ⟨d2, e2, rfl, h2, h3⟩⟩⟩
    have h0 := rep_sc.1 h0; subst h0
    have h1 := rep_sc.1 h1; subst h1
    obtain ⟨_, q2, k2⟩ := rep_sl.1 h2; subst q2
    obtain ⟨_, q3, k3⟩ := rep_sl.1 h3; subst q3
    exact ⟨_, _, rfl, k2, k3⟩
  · rintro ⟨c2, c3, rfl, g0, g1⟩
    exact ⟨_, _, rfl, (rep_sc.2 rfl), ⟨_, _, rfl, (rep_sc.2 rfl), ⟨_, _, rfl, (rep_sl.2 ⟨_, rfl, g0⟩), (rep_sl.2 ⟨_, rfl, g1⟩)⟩⟩⟩
theorem marigraphlaw08_Act.o {S : Nat → Prop} {w : World} {v : Value} {x : marigraphlaw08_Act} : Sl marigraphlaw08_Act.k S w v x ↔ ∃ c2 c3 : Value, v = .agg (List.toArray [.int .u8 x.Kind, .int .i64 x.Id, c2, c3]) ∧ Sl (kSl api_Label.k) S w c2 x.L ∧ Sl (kSl api_Ask.k) S w c3 x.A := by
  constructor
  · rintro ⟨cs, rfl, h⟩
    obtain ⟨c2, c3, rfl, g0, g1⟩ := marigraphlaw08_Act.r.1 h
    exact ⟨c2, c3, rfl, g0, g1⟩
  · rintro ⟨c2, c3, rfl, g0, g1⟩
    exact ⟨_, rfl, marigraphlaw08_Act.r.2 ⟨c2, c3, rfl, g0, g1⟩⟩

structure octs_Taker where
  rest : List Int
  bad : Bool

def octs_Taker.k : Kd octs_Taker := kIso (kAgg (kPair (kSl (kI .u8)) kB)) fun x => (x.rest, x.bad)
theorem octs_Taker.r {S : Nat → Prop} {w : World} {cs : List Value} {x : octs_Taker} : octs_Taker.k.rep S w cs x ↔ ∃ c0 : Value, cs = [c0, .bool x.bad] ∧ Sl (kSl (kI .u8)) S w c0 x.rest := by
  constructor
  · rintro ⟨d0, e0, rfl, h0, h1⟩
    obtain ⟨_, q0, k0⟩ := rep_sl.1 h0; subst q0
    have h1 := rep_sc.1 h1; subst h1
    exact ⟨_, rfl, k0⟩
  · rintro ⟨c0, rfl, g0⟩
    exact ⟨_, _, rfl, (rep_sl.2 ⟨_, rfl, g0⟩), (rep_sc.2 rfl)⟩
theorem octs_Taker.o {S : Nat → Prop} {w : World} {v : Value} {x : octs_Taker} : Sl octs_Taker.k S w v x ↔ ∃ c0 : Value, v = .agg (List.toArray [c0, .bool x.bad]) ∧ Sl (kSl (kI .u8)) S w c0 x.rest := by
  constructor
  · rintro ⟨cs, rfl, h⟩
    obtain ⟨c0, rfl, g0⟩ := octs_Taker.r.1 h
    exact ⟨c0, rfl, g0⟩
  · rintro ⟨c0, rfl, g0⟩
    exact ⟨_, rfl, octs_Taker.r.2 ⟨c0, rfl, g0⟩⟩

structure marigraphref08_Series where
  Id : Int
  L : List api_Label

def marigraphref08_Series.k : Kd marigraphref08_Series := kIso (kAgg (kPair (kI .i64) (kSl api_Label.k))) fun x => (x.Id, x.L)
theorem marigraphref08_Series.r {S : Nat → Prop} {w : World} {cs : List Value} {x : marigraphref08_Series} : marigraphref08_Series.k.rep S w cs x ↔ ∃ c1 : Value, cs = [.int .i64 x.Id, c1] ∧ Sl (kSl api_Label.k) S w c1 x.L := by
  constructor
  · rintro ⟨d0, e0, rfl, h0, h1⟩
    have h0 := rep_sc.1 h0; subst h0
    obtain ⟨_, q1, k1⟩ := rep_sl.1 h1; subst q1
    exact ⟨_, rfl, k1⟩
  · rintro ⟨c1, rfl, g0⟩
    exact ⟨_, _, rfl, (rep_sc.2 rfl), (rep_sl.2 ⟨_, rfl, g0⟩)⟩
theorem marigraphref08_Series.o {S : Nat → Prop} {w : World} {v : Value} {x : marigraphref08_Series} : Sl marigraphref08_Series.k S w v x ↔ ∃ c1 : Value, v = .agg (List.toArray [.int .i64 x.Id, c1]) ∧ Sl (kSl api_Label.k) S w c1 x.L := by
  constructor
  · rintro ⟨cs, rfl, h⟩
    obtain ⟨c1, rfl, g0⟩ := marigraphref08_Series.r.1 h
    exact ⟨c1, rfl, g0⟩
  · rintro ⟨c1, rfl, g0⟩
    exact ⟨_, rfl, marigraphref08_Series.r.2 ⟨c1, rfl, g0⟩⟩

structure marigraphref08_Index where
  S : List marigraphref08_Series
  Given : Int

def marigraphref08_Index.k : Kd marigraphref08_Index := kIso (kAgg (kPair (kSl marigraphref08_Series.k) (kI .i64))) fun x => (x.S, x.Given)
theorem marigraphref08_Index.r {S : Nat → Prop} {w : World} {cs : List Value} {x : marigraphref08_Index} : marigraphref08_Index.k.rep S w cs x ↔ ∃ c0 : Value, cs = [c0, .int .i64 x.Given] ∧ Sl (kSl marigraphref08_Series.k) S w c0 x.S := by
  constructor
  · rintro ⟨d0, e0, rfl, h0, h1⟩
    obtain ⟨_, q0, k0⟩ := rep_sl.1 h0; subst q0
    have h1 := rep_sc.1 h1; subst h1
    exact ⟨_, rfl, k0⟩
  · rintro ⟨c0, rfl, g0⟩
    exact ⟨_, _, rfl, (rep_sl.2 ⟨_, rfl, g0⟩), (rep_sc.2 rfl)⟩
theorem marigraphref08_Index.o {S : Nat → Prop} {w : World} {v : Value} {x : marigraphref08_Index} : Sl marigraphref08_Index.k S w v x ↔ ∃ c0 : Value, v = .agg (List.toArray [c0, .int .i64 x.Given]) ∧ Sl (kSl marigraphref08_Series.k) S w c0 x.S := by
  constructor
  · rintro ⟨cs, rfl, h⟩
    obtain ⟨c0, rfl, g0⟩ := marigraphref08_Index.r.1 h
    exact ⟨c0, rfl, g0⟩
  · rintro ⟨c0, rfl, g0⟩
    exact ⟨_, rfl, marigraphref08_Index.r.2 ⟨c0, rfl, g0⟩⟩

structure marigraphref01_Taker where
  B : List Int
  Bad : Bool

def marigraphref01_Taker.k : Kd marigraphref01_Taker := kIso (kAgg (kPair (kSl (kI .u8)) kB)) fun x => (x.B, x.Bad)
theorem marigraphref01_Taker.r {S : Nat → Prop} {w : World} {cs : List Value} {x : marigraphref01_Taker} : marigraphref01_Taker.k.rep S w cs x ↔ ∃ c0 : Value, cs = [c0, .bool x.Bad] ∧ Sl (kSl (kI .u8)) S w c0 x.B := by
  constructor
  · rintro ⟨d0, e0, rfl, h0, h1⟩
    obtain ⟨_, q0, k0⟩ := rep_sl.1 h0; subst q0
    have h1 := rep_sc.1 h1; subst h1
    exact ⟨_, rfl, k0⟩
  · rintro ⟨c0, rfl, g0⟩
    exact ⟨_, _, rfl, (rep_sl.2 ⟨_, rfl, g0⟩), (rep_sc.2 rfl)⟩
theorem marigraphref01_Taker.o {S : Nat → Prop} {w : World} {v : Value} {x : marigraphref01_Taker} : Sl marigraphref01_Taker.k S w v x ↔ ∃ c0 : Value, v = .agg (List.toArray [c0, .bool x.Bad]) ∧ Sl (kSl (kI .u8)) S w c0 x.B := by
  constructor
  · rintro ⟨cs, rfl, h⟩
    obtain ⟨c0, rfl, g0⟩ := marigraphref01_Taker.r.1 h
    exact ⟨c0, rfl, g0⟩
  · rintro ⟨c0, rfl, g0⟩
    exact ⟨_, rfl, marigraphref01_Taker.r.2 ⟨c0, rfl, g0⟩⟩

set_option maxRecDepth 100000 in
theorem eqs46 (a0 : ByteArray) (a1 : ByteArray) (b0 : ByteArray) (b1 : ByteArray) : vEq Tryz.prog Op.maxDepth 46 (.agg (List.toArray [.string a0, .string a1])) (.agg (List.toArray [.string b0, .string b1])) = some ((a0 == b0) && ((a1 == b1) && true)) := by kernel_rfl
set_option maxRecDepth 100000 in
theorem zr61 : zeroOf Tryz.prog 61 = some [.map none, .map none, .map none, .map none, .int .i64 0] := by kernel_rfl
set_option maxRecDepth 100000 in
theorem st61 : stOf Tryz.prog 61 = some [(0, 1, false), (1, 1, false), (2, 1, false), (3, 1, false), (4, 1, false)] := by kernel_rfl
set_option maxRecDepth 100000 in
theorem can6 : CanE Tryz.prog 6 = true := by kernel_rfl
set_option maxRecDepth 100000 in
theorem st46 : stOf Tryz.prog 46 = some [(0, 1, false), (1, 1, false)] := by kernel_rfl
set_option maxRecDepth 100000 in
theorem zr46 : zeroOf Tryz.prog 46 = some [.string ByteArray.empty, .string ByteArray.empty] := by kernel_rfl
set_option maxRecDepth 100000 in
theorem el31 : El Tryz.prog api_Label.k 31 46 32 := { hi := ⟨_, _, rfl, rfl, rfl, rfl, rfl⟩, hs := by decide, ag := by kernel_rfl, ht := by kernel_rfl }
set_option maxRecDepth 100000 in
theorem can58 : CanE Tryz.prog 58 = true := by kernel_rfl
set_option maxRecDepth 100000 in
theorem can121 : CanE Tryz.prog 121 = true := by kernel_rfl
set_option maxRecDepth 100000 in
theorem can92 : CanE Tryz.prog 92 = true := by kernel_rfl
set_option maxRecDepth 100000 in
theorem ag9 : aggOf Tryz.prog 9 = some (false, 1) := by kernel_rfl
set_option maxRecDepth 100000 in
theorem fol : Tryz.prog.follows .mixedOrders = true := by kernel_rfl
set_option maxRecDepth 100000 in
theorem can91 : CanE Tryz.prog 91 = true := by kernel_rfl
set_option maxRecDepth 100000 in
theorem can137 : CanE Tryz.prog 137 = true := by kernel_rfl
set_option maxRecDepth 100000 in
theorem can143 : CanE Tryz.prog 143 = true := by kernel_rfl
set_option maxRecDepth 100000 in
theorem can142 : CanE Tryz.prog 142 = true := by kernel_rfl
set_option maxRecDepth 100000 in
theorem can138 : CanE Tryz.prog 138 = true := by kernel_rfl
set_option maxRecDepth 100000 in
theorem can120 : CanE Tryz.prog 120 = true := by kernel_rfl
set_option maxRecDepth 100000 in
theorem can90 : CanE Tryz.prog 90 = true := by kernel_rfl
set_option maxRecDepth 100000 in
theorem can88 : CanE Tryz.prog 88 = true := by kernel_rfl
set_option maxRecDepth 100000 in
theorem can119 : CanE Tryz.prog 119 = true := by kernel_rfl
set_option maxRecDepth 100000 in
theorem can141 : CanE Tryz.prog 141 = true := by kernel_rfl
set_option maxRecDepth 100000 in
theorem can136 : CanE Tryz.prog 136 = true := by kernel_rfl
set_option maxRecDepth 100000 in
theorem can118 : CanE Tryz.prog 118 = true := by kernel_rfl
set_option maxRecDepth 100000 in
theorem can87 : CanE Tryz.prog 87 = true := by kernel_rfl
set_option maxRecDepth 100000 in
theorem can89 : CanE Tryz.prog 89 = true := by kernel_rfl
set_option maxRecDepth 100000 in
theorem can62 : CanE Tryz.prog 62 = true := by kernel_rfl
set_option maxRecDepth 100000 in
theorem can70 : CanE Tryz.prog 70 = true := by kernel_rfl
set_option maxRecDepth 100000 in
theorem el36 : El Tryz.prog (kI .u8) 36 5 1 := { hi := ⟨_, _, rfl, rfl, rfl, rfl, rfl⟩, hs := by decide, ag := by kernel_rfl, ht := by kernel_rfl }
set_option maxRecDepth 100000 in
theorem can33 : CanE Tryz.prog 33 = true := by kernel_rfl
set_option maxRecDepth 100000 in
theorem zv5 : (Tryz.prog.info? 5).bind (·.zero) = some (.int .u8 0) := by kernel_rfl
set_option maxRecDepth 100000 in
theorem can63 : CanE Tryz.prog 63 = true := by kernel_rfl
set_option maxRecDepth 100000 in
theorem can35 : CanE Tryz.prog 35 = true := by kernel_rfl
set_option maxRecDepth 100000 in
theorem can43 : CanE Tryz.prog 43 = true := by kernel_rfl
set_option maxRecDepth 100000 in
theorem zv3 : (Tryz.prog.info? 3).bind (·.zero) = some (.int .i64 0) := by kernel_rfl
set_option maxRecDepth 100000 in
theorem ag3 : aggOf Tryz.prog 3 = some (false, 1) := by kernel_rfl
set_option maxRecDepth 100000 in
theorem ag56 : aggOf Tryz.prog 56 = some (false, 1) := by kernel_rfl
set_option maxRecDepth 100000 in
theorem zv31 : (Tryz.prog.info? 31).bind (·.zero) = some (.slice none 0 0) := by kernel_rfl
set_option maxRecDepth 100000 in
theorem zv49 : (Tryz.prog.info? 49).bind (·.zero) = some (.slice none 0 0) := by kernel_rfl
set_option maxRecDepth 100000 in
theorem el49 : El Tryz.prog (kI .i64) 49 3 8 := { hi := ⟨_, _, rfl, rfl, rfl, rfl, rfl⟩, hs := by decide, ag := by kernel_rfl, ht := by kernel_rfl }
set_option maxRecDepth 100000 in
theorem can122 : CanE Tryz.prog 122 = true := by kernel_rfl
set_option maxRecDepth 100000 in
theorem can123 : CanE Tryz.prog 123 = true := by kernel_rfl
set_option maxRecDepth 100000 in
theorem can95 : CanE Tryz.prog 95 = true := by kernel_rfl
set_option maxRecDepth 100000 in
theorem can93 : CanE Tryz.prog 93 = true := by kernel_rfl
set_option maxRecDepth 100000 in
theorem can71 : CanE Tryz.prog 71 = true := by kernel_rfl
set_option maxRecDepth 100000 in
theorem ag59 : aggOf Tryz.prog 59 = some (false, 1) := by kernel_rfl
set_option maxRecDepth 100000 in
theorem ag58 : aggOf Tryz.prog 58 = some (false, 1) := by kernel_rfl
set_option maxRecDepth 100000 in
theorem ag57 : aggOf Tryz.prog 57 = some (false, 1) := by kernel_rfl
set_option maxRecDepth 100000 in
theorem can44 : CanE Tryz.prog 44 = true := by kernel_rfl
set_option maxRecDepth 100000 in
theorem can14 : CanE Tryz.prog 14 = true := by kernel_rfl
set_option maxRecDepth 100000 in
theorem st53 : stOf Tryz.prog 53 = some [(0, 1, false), (1, 1, false), (2, 1, false)] := by kernel_rfl
set_option maxRecDepth 100000 in
theorem zr53 : zeroOf Tryz.prog 53 = some [.int .u8 0, .string ByteArray.empty, .string ByteArray.empty] := by kernel_rfl
set_option maxRecDepth 100000 in
theorem el32 : El Tryz.prog api_Ask.k 32 53 40 := { hi := ⟨_, _, rfl, rfl, rfl, rfl, rfl⟩, hs := by decide, ag := by kernel_rfl, ht := by kernel_rfl }
set_option maxRecDepth 100000 in
theorem can94 : CanE Tryz.prog 94 = true := by kernel_rfl
set_option maxRecDepth 100000 in
theorem ag5 : aggOf Tryz.prog 5 = some (false, 1) := by kernel_rfl
set_option maxRecDepth 100000 in
theorem can76 : CanE Tryz.prog 76 = true := by kernel_rfl
set_option maxRecDepth 100000 in
theorem ag53 : aggOf Tryz.prog 53 = some (true, 3) := by kernel_rfl
set_option maxRecDepth 100000 in
theorem can74 : CanE Tryz.prog 74 = true := by kernel_rfl
set_option maxRecDepth 100000 in
theorem can75 : CanE Tryz.prog 75 = true := by kernel_rfl
set_option maxRecDepth 100000 in
theorem can49 : CanE Tryz.prog 49 = true := by kernel_rfl
set_option maxRecDepth 100000 in
theorem can61 : CanE Tryz.prog 61 = true := by kernel_rfl
set_option maxRecDepth 100000 in
theorem can34 : CanE Tryz.prog 34 = true := by kernel_rfl
set_option maxRecDepth 100000 in
theorem el95 : El Tryz.prog (kSl (kI .i64)) 95 49 24 := { hi := ⟨_, _, rfl, rfl, rfl, rfl, rfl⟩, hs := by decide, ag := by kernel_rfl, ht := by kernel_rfl }
set_option maxRecDepth 100000 in
theorem ag24 : aggOf Tryz.prog 24 = some (false, 1) := by kernel_rfl
set_option maxRecDepth 100000 in
theorem can77 : CanE Tryz.prog 77 = true := by kernel_rfl
set_option maxRecDepth 100000 in
theorem can52 : CanE Tryz.prog 52 = true := by kernel_rfl
set_option maxRecDepth 100000 in
theorem can96 : CanE Tryz.prog 96 = true := by kernel_rfl
set_option maxRecDepth 100000 in
theorem zr3 : zeroOf Tryz.prog 3 = some [.int .i64 0] := by kernel_rfl
set_option maxRecDepth 100000 in
theorem can124 : CanE Tryz.prog 124 = true := by kernel_rfl
set_option maxRecDepth 100000 in
theorem can125 : CanE Tryz.prog 125 = true := by kernel_rfl
set_option maxRecDepth 100000 in
theorem can97 : CanE Tryz.prog 97 = true := by kernel_rfl
set_option maxRecDepth 100000 in
theorem can126 : CanE Tryz.prog 126 = true := by kernel_rfl
set_option maxRecDepth 100000 in
theorem can98 : CanE Tryz.prog 98 = true := by kernel_rfl
set_option maxRecDepth 100000 in
theorem can80 : CanE Tryz.prog 80 = true := by kernel_rfl
set_option maxRecDepth 100000 in
theorem can78 : CanE Tryz.prog 78 = true := by kernel_rfl
set_option maxRecDepth 100000 in
theorem can79 : CanE Tryz.prog 79 = true := by kernel_rfl
set_option maxRecDepth 100000 in
theorem can50 : CanE Tryz.prog 50 = true := by kernel_rfl
set_option maxRecDepth 100000 in
theorem can81 : CanE Tryz.prog 81 = true := by kernel_rfl
set_option maxRecDepth 100000 in
theorem can51 : CanE Tryz.prog 51 = true := by kernel_rfl
set_option maxRecDepth 100000 in
theorem can15 : CanE Tryz.prog 15 = true := by kernel_rfl
set_option maxRecDepth 100000 in
theorem can25 : CanE Tryz.prog 25 = true := by kernel_rfl
set_option maxRecDepth 100000 in
theorem can53 : CanE Tryz.prog 53 = true := by kernel_rfl
set_option maxRecDepth 100000 in
theorem can16 : CanE Tryz.prog 16 = true := by kernel_rfl
set_option maxRecDepth 100000 in
theorem can17 : CanE Tryz.prog 17 = true := by kernel_rfl
set_option maxRecDepth 100000 in
theorem can5 : CanE Tryz.prog 5 = true := by kernel_rfl
set_option maxRecDepth 100000 in
theorem st112 : stOf Tryz.prog 112 = some [(0, 1, false), (1, 1, false)] := by kernel_rfl
set_option maxRecDepth 100000 in
theorem zr112 : zeroOf Tryz.prog 112 = some [.slice none 0 0, .bool false] := by kernel_rfl
set_option maxRecDepth 100000 in
theorem can38 : CanE Tryz.prog 38 = true := by kernel_rfl
set_option maxRecDepth 100000 in
theorem can66 : CanE Tryz.prog 66 = true := by kernel_rfl
set_option maxRecDepth 100000 in
theorem ag36 : aggOf Tryz.prog 36 = some (false, 1) := by kernel_rfl
set_option maxRecDepth 100000 in
theorem ag4 : aggOf Tryz.prog 4 = some (false, 1) := by kernel_rfl
set_option maxRecDepth 100000 in
theorem can67 : CanE Tryz.prog 67 = true := by kernel_rfl
set_option maxRecDepth 100000 in
theorem can39 : CanE Tryz.prog 39 = true := by kernel_rfl
set_option maxRecDepth 100000 in
theorem can40 : CanE Tryz.prog 40 = true := by kernel_rfl
set_option maxRecDepth 100000 in
theorem can41 : CanE Tryz.prog 41 = true := by kernel_rfl
set_option maxRecDepth 100000 in
theorem can68 : CanE Tryz.prog 68 = true := by kernel_rfl
set_option maxRecDepth 100000 in
theorem can69 : CanE Tryz.prog 69 = true := by kernel_rfl
set_option maxRecDepth 100000 in
theorem can42 : CanE Tryz.prog 42 = true := by kernel_rfl
set_option maxRecDepth 100000 in
theorem can12 : CanE Tryz.prog 12 = true := by kernel_rfl
set_option maxRecDepth 100000 in
theorem st92 : stOf Tryz.prog 92 = some [(0, 1, false), (1, 1, false)] := by kernel_rfl
set_option maxRecDepth 100000 in
theorem zr92 : zeroOf Tryz.prog 92 = some [.slice none 0 0, .bool false] := by kernel_rfl
set_option maxRecDepth 100000 in
theorem can36 : CanE Tryz.prog 36 = true := by kernel_rfl
set_option maxRecDepth 100000 in
theorem can72 : CanE Tryz.prog 72 = true := by kernel_rfl
set_option maxRecDepth 100000 in
theorem can45 : CanE Tryz.prog 45 = true := by kernel_rfl
set_option maxRecDepth 100000 in
theorem st29 : stOf Tryz.prog 29 = some [(0, 1, false), (1, 1, false)] := by kernel_rfl
set_option maxRecDepth 100000 in
theorem zr29 : zeroOf Tryz.prog 29 = some [.slice none 0 0, .int .i64 0] := by kernel_rfl
set_option maxRecDepth 100000 in
theorem can73 : CanE Tryz.prog 73 = true := by kernel_rfl
set_option maxRecDepth 100000 in
theorem can82 : CanE Tryz.prog 82 = true := by kernel_rfl
set_option maxRecDepth 100000 in
theorem can64 : CanE Tryz.prog 64 = true := by kernel_rfl
set_option maxRecDepth 100000 in
theorem can65 : CanE Tryz.prog 65 = true := by kernel_rfl
set_option maxRecDepth 100000 in
theorem can37 : CanE Tryz.prog 37 = true := by kernel_rfl
set_option maxRecDepth 100000 in
theorem can46 : CanE Tryz.prog 46 = true := by kernel_rfl
set_option maxRecDepth 100000 in
theorem st79 : stOf Tryz.prog 79 = some [(0, 1, false), (1, 1, false)] := by kernel_rfl
set_option maxRecDepth 100000 in
theorem el27 : El Tryz.prog marigraphref08_Series.k 27 79 32 := { hi := ⟨_, _, rfl, rfl, rfl, rfl, rfl⟩, hs := by decide, ag := by kernel_rfl, ht := by kernel_rfl }
set_option maxRecDepth 100000 in
theorem ag31 : aggOf Tryz.prog 31 = some (false, 1) := by kernel_rfl
set_option maxRecDepth 100000 in
theorem eqg46 : Tryz.prog.eqGuardType Tryz.prog.depth 46 = false := by kernel_rfl
set_option maxRecDepth 100000 in
theorem can32 : CanE Tryz.prog 32 = true := by kernel_rfl
set_option maxRecDepth 100000 in
theorem ag27 : aggOf Tryz.prog 27 = some (false, 1) := by kernel_rfl
set_option maxRecDepth 100000 in
theorem can47 : CanE Tryz.prog 47 = true := by kernel_rfl
set_option maxRecDepth 100000 in
theorem zr79 : zeroOf Tryz.prog 79 = some [.int .i64 0, .slice none 0 0] := by kernel_rfl
set_option maxRecDepth 100000 in
theorem can48 : CanE Tryz.prog 48 = true := by kernel_rfl
set_option maxRecDepth 100000 in
theorem can13 : CanE Tryz.prog 13 = true := by kernel_rfl
set_option maxRecDepth 100000 in
theorem can10 : CanE Tryz.prog 10 = true := by kernel_rfl
set_option maxRecDepth 100000 in
theorem st34 : stOf Tryz.prog 34 = some [(0, 1, false), (1, 1, false), (2, 1, false), (3, 1, false)] := by kernel_rfl
set_option maxRecDepth 100000 in
theorem can54 : CanE Tryz.prog 54 = true := by kernel_rfl
set_option maxRecDepth 100000 in
theorem can18 : CanE Tryz.prog 18 = true := by kernel_rfl
set_option maxRecDepth 100000 in
theorem can19 : CanE Tryz.prog 19 = true := by kernel_rfl
set_option maxRecDepth 100000 in
theorem can55 : CanE Tryz.prog 55 = true := by kernel_rfl
set_option maxRecDepth 100000 in
theorem can60 : CanE Tryz.prog 60 = true := by kernel_rfl
set_option maxRecDepth 100000 in
theorem can83 : CanE Tryz.prog 83 = true := by kernel_rfl
set_option maxRecDepth 100000 in
theorem can56 : CanE Tryz.prog 56 = true := by kernel_rfl
set_option maxRecDepth 100000 in
theorem can20 : CanE Tryz.prog 20 = true := by kernel_rfl
set_option maxRecDepth 100000 in
theorem ag32 : aggOf Tryz.prog 32 = some (false, 1) := by kernel_rfl
set_option maxRecDepth 100000 in
theorem can21 : CanE Tryz.prog 21 = true := by kernel_rfl
set_option maxRecDepth 100000 in
theorem can57 : CanE Tryz.prog 57 = true := by kernel_rfl
set_option maxRecDepth 100000 in
theorem can22 : CanE Tryz.prog 22 = true := by kernel_rfl
set_option maxRecDepth 100000 in
theorem can8 : CanE Tryz.prog 8 = true := by kernel_rfl
set_option maxRecDepth 100000 in
theorem can23 : CanE Tryz.prog 23 = true := by kernel_rfl
set_option maxRecDepth 100000 in
theorem can24 : CanE Tryz.prog 24 = true := by kernel_rfl
set_option maxRecDepth 100000 in
theorem can26 : CanE Tryz.prog 26 = true := by kernel_rfl
set_option maxRecDepth 100000 in
theorem el70 : El Tryz.prog kS 70 9 16 := { hi := ⟨_, _, rfl, rfl, rfl, rfl, rfl⟩, hs := by decide, ag := by kernel_rfl, ht := by kernel_rfl }
set_option maxRecDepth 100000 in
theorem ag46 : aggOf Tryz.prog 46 = some (true, 2) := by kernel_rfl
set_option maxRecDepth 100000 in
theorem can59 : CanE Tryz.prog 59 = true := by kernel_rfl
set_option maxRecDepth 100000 in
theorem can27 : CanE Tryz.prog 27 = true := by kernel_rfl
set_option maxRecDepth 100000 in
theorem can28 : CanE Tryz.prog 28 = true := by kernel_rfl
set_option maxRecDepth 100000 in
theorem can30 : CanE Tryz.prog 30 = true := by kernel_rfl
set_option maxRecDepth 100000 in
theorem can31 : CanE Tryz.prog 31 = true := by kernel_rfl
set_option maxRecDepth 100000 in
theorem can29 : CanE Tryz.prog 29 = true := by kernel_rfl
set_option maxRecDepth 100000 in
theorem can9 : CanE Tryz.prog 9 = true := by kernel_rfl
set_option maxRecDepth 100000 in
theorem ag34 : aggOf Tryz.prog 34 = some (true, 4) := by kernel_rfl
noncomputable instance api_Label_dec : DecidableEq api_Label := fun a b => Classical.propDecidable (a = b)
set_option maxRecDepth 100000 in
noncomputable def ky_api_Label : Ky Tryz.prog 46 api_Label := kyG Tryz.underlying46 (fun x => .agg (List.toArray [.string x.Name, .string x.Val])) (fun _ _ => rfl)
  (fun a b w => (run_vEq (eqs46 a.Name a.Val b.Name b.Val) w).trans (congrArg (fun q => Result.ok q w) (by rcases a with ⟨a0, a1⟩; rcases b with ⟨b0, b1⟩; apply Bool.eq_iff_iff.2; simp [ba_beq])))
  (fun _ _ _ => by kernel_rfl) (fun _ => same_agg rfl 9999)
structure index_Index where
  series : List (Int × List api_Label)
  ids : List (ByteArray × Int)
  posts : List (api_Label × List Int)
  names : List (ByteArray × List Int)
  given : Int
noncomputable def index_Index.fs (x : index_Index) : List ((α : Type) × Fk α × α) :=
  [⟨_, fMap (kyI Tryz.underlying3) (kSl api_Label.k), x.series⟩, ⟨_, fMap (kyS Tryz.underlying9) (kI .i64), x.ids⟩, ⟨_, fMap ky_api_Label (kSl (kI .i64)), x.posts⟩, ⟨_, fMap (kyS Tryz.underlying9) (kSl (kI .i64)), x.names⟩, ⟨_, fSl (kI .i64) rfl, x.given⟩]

noncomputable def octs_Taker.fs (x : octs_Taker) : List ((α : Type) × Fk α × α) :=
  [⟨_, fSl (kSl (kI .u8)) rfl, x.rest⟩, ⟨_, fSl kB rfl, x.bad⟩]

noncomputable def marigraphref08_Index.fs (x : marigraphref08_Index) : List ((α : Type) × Fk α × α) :=
  [⟨_, fRow marigraphref08_Series.k 79, x.S⟩, ⟨_, fSl (kI .i64) rfl, x.Given⟩]

noncomputable def marigraphref01_Taker.fs (x : marigraphref01_Taker) : List ((α : Type) × Fk α × α) :=
  [⟨_, fSl (kSl (kI .u8)) rfl, x.B⟩, ⟨_, fSl kB rfl, x.Bad⟩]

noncomputable def index_New  : Option (Option index_Index) :=
  some (some (index_Index.mk ([] : List (Int × List api_Label)) ([] : List (ByteArray × Int)) ([] : List (api_Label × List Int)) ([] : List (ByteArray × List Int)) (0 : Int)))
theorem index_New_w {S : Nat → Prop} {w : World}  {r : (Option index_Index)} (hS : Sb S w)  (h : index_New = some r) :
    Calls Tryz.prog 6 (List.toArray []) w fun e w1 => ∃ S1 u0 us0 up0, e = .returned (u0) ∧ Cx No S w S1 w1 ∧ Obo 61 index_Index.fs S1 w1 u0 r us0 up0 ∧ (∀ b, b ∈ up0 → w.heap.size ≤ b) := by
  refine enter Tryz.func6 rfl (by kernel_rfl) rfl ?_
  have C := Cx.refl (F := No) hS
  unfold index_New at h
  refine cw_seq fun K1 k2 => ?_
  refine cw_region (sv (asv (.pointer none) rfl) (W.e (k2 _ _ ?_)))
  refine cw_seq fun K3 k4 => ?_
  refine cw_region ?_
  refine sc (dc_mkmap (kyI Tryz.underlying3) (kSl api_Label.k) C.sb fun c5 b6 w7 h8 h9 u10 => ?_)
  have h11 : Mo (fMap (kyI Tryz.underlying3) (kSl api_Label.k)) S w7 c5 ([] : List (Int × List api_Label)) [b6] := ⟨h9, by simp⟩
  have h12p := C.up.size
  have h12q : ∀ q, q ∈ [b6] → w.heap.size ≤ q := fun q hq => by simp at hq; omega
  have h12 : ∀ q, q ∈ [b6] → w.heap.size ≤ q := fun q hq => Nat.le_trans C.up.size (h12q q hq)
  have h12r : b6 < w7.heap.size := (h11.lt b6 (by simp)).1
  replace C := C.new u10
  refine sc (dc_mkmap (kyS Tryz.underlying9) (kI .i64) C.sb fun c13 b14 w15 h16 h17 u18 => ?_)
  have h19 : Mo (fMap (kyS Tryz.underlying9) (kI .i64)) S w15 c13 ([] : List (ByteArray × Int)) [b14] := ⟨h17, by simp⟩
  have h20p := C.up.size
  have h20q : ∀ q, q ∈ [b14] → w7.heap.size ≤ q := fun q hq => by simp at hq; omega
  have h20 : ∀ q, q ∈ [b14] → w.heap.size ≤ q := fun q hq => Nat.le_trans C.up.size (h20q q hq)
  have h20r : b14 < w15.heap.size := (h19.lt b14 (by simp)).1
  have p21 := ap_fresh h20q (fun b hb => (h11.lt b hb).1)
  replace h11 := h11.nw u18
  replace C := C.new u18
  refine sc (dc_mkmap ky_api_Label (kSl (kI .i64)) C.sb fun c22 b23 w24 h25 h26 u27 => ?_)
  have h28 : Mo (fMap ky_api_Label (kSl (kI .i64))) S w24 c22 ([] : List (api_Label × List Int)) [b23] := ⟨h26, by simp⟩
  have h29p := C.up.size
  have h29q : ∀ q, q ∈ [b23] → w15.heap.size ≤ q := fun q hq => by simp at hq; omega
  have h29 : ∀ q, q ∈ [b23] → w.heap.size ≤ q := fun q hq => Nat.le_trans C.up.size (h29q q hq)
  have h29r : b23 < w24.heap.size := (h28.lt b23 (by simp)).1
  have p30 := ap_fresh h29q (fun b hb => (h11.lt b hb).1)
  have p31 := ap_fresh h29q (fun b hb => (h19.lt b hb).1)
  replace h11 := h11.nw u27
  replace h19 := h19.nw u27
  replace C := C.new u27
  refine sc (dc_mkmap (kyS Tryz.underlying9) (kSl (kI .i64)) C.sb fun c32 b33 w34 h35 h36 u37 => ?_)
  have h38 : Mo (fMap (kyS Tryz.underlying9) (kSl (kI .i64))) S w34 c32 ([] : List (ByteArray × List Int)) [b33] := ⟨h36, by simp⟩
  have h39p := C.up.size
  have h39q : ∀ q, q ∈ [b33] → w24.heap.size ≤ q := fun q hq => by simp at hq; omega
  have h39 : ∀ q, q ∈ [b33] → w.heap.size ≤ q := fun q hq => Nat.le_trans C.up.size (h39q q hq)
  have h39r : b33 < w34.heap.size := (h38.lt b33 (by simp)).1
  have p40 := ap_fresh h39q (fun b hb => (h11.lt b hb).1)
  have p41 := ap_fresh h39q (fun b hb => (h19.lt b hb).1)
  have p42 := ap_fresh h39q (fun b hb => (h28.lt b hb).1)
  replace h11 := h11.nw u37
  replace h19 := h19.nw u37
  replace h28 := h28.nw u37
  replace C := C.new u37
  have h43 := Mo.cells h11
  have h44 := Mo.cells h19
  have h45 := Mo.cells h28
  have h46 := Mo.cells h38
  refine sv (rv_build (r := [c5, c13, c22, c32, .int .i64 0]) st61 zr61 (by obtain ⟨_, rfl⟩ := h43; obtain ⟨_, rfl⟩ := h44; obtain ⟨_, rfl⟩ := h45; obtain ⟨_, rfl⟩ := h46; rfl)) ?_
  refine sc (dc_obox (l := index_Index.fs (index_Index.mk ([] : List (Int × List api_Label)) ([] : List (ByteArray × Int)) ([] : List (api_Label × List Int)) ([] : List (ByteArray × List Int)) (0 : Int))) (S := S) (cs := [c5, c13, c22, c32, .int .i64 0]) (.cons h11.1 (.cons h19.1 (.cons h28.1 (.cons h38.1 (.cons ⟨rep_sc.2 rfl, rfl⟩ (.nil)))))) (by simp; omega) C.sb rfl fun v47 w48 h49 h50 u51 => ?_)
  have h53p := C.up.size
  obtain ⟨fp52, h49, h53⟩ : ∃ fp, Ob 61 (index_Index.fs (index_Index.mk ([] : List (Int × List api_Label)) ([] : List (ByteArray × Int)) ([] : List (api_Label × List Int)) ([] : List (ByteArray × List Int)) (0 : Int))) S w48 v47 [c5, c13, c22, c32, .int .i64 0] fp ∧ ∀ q, q ∈ fp → w.heap.size ≤ q := ⟨_, h49, fun q hq => by simp at hq; omega⟩
  replace C := C.new u51
  refine sv (asv v47 rfl) (W.e (k4 _ _ (cw_ret ?_)))
  obtain rfl := osi h
  exact ⟨_, rfl, _, _, _, _, rfl, C, h49, h53⟩

def slices_Clone_api_Label_api_Label (a0 : List api_Label) : Option (List api_Label) := clone_ 32 a0
theorem slices_Clone_api_Label_api_Label_w {S : Nat → Prop} {w : World} {a0 : List api_Label} {v0 : Value} {r : List api_Label} (hS : Sb S w) (h0 : Sl (kSl api_Label.k) S w v0 a0) (h : slices_Clone_api_Label_api_Label a0 = some r) :
    Calls Tryz.prog 58 (List.toArray [v0]) w fun e w1 => ∃ S1 u0, e = .returned u0 ∧ Cx No S w S1 w1 ∧ Ow api_Label.k 46 S1 w.heap.size w1 u0 r := by
  refine enter Tryz.func58 rfl (by kernel_rfl) rfl ?_
  have C := Cx.refl (F := No) hS
  unfold slices_Clone_api_Label_api_Label at h
  refine cw_seq fun K1 k1 => cw_region (sv rv_assign (W.e (k1 _ _ ?_)))
  obtain ⟨A, c, rfl, _, _, hA⟩ := sl_slice.1 h0
  refine cw_seq fun K2 k2 => cw_seq fun K3 k3 => cw_region (sv rv_move (sv (rv_slnil Tryz.underlying31 rfl rfl) (W.e (k3 _ _ ?_))))
  cases A with
  | none =>
    refine cw_t rfl rfl (cw_seq fun K4 k4 => cw_region (sv rv_assign (W.e (k4 _ _ (cw_ret ?_)))))
    have : a0 = [] := hA.elim (fun h => h) fun ⟨_, _, h, _⟩ => by cases h
    subst this
    obtain rfl := clone_nil h
    exact ⟨_, rfl, S, _, rfl, C, Ow.nil _ _ _ _ _⟩
  | some a =>
    refine cw_f rfl rfl (cw_skip (k2 _ _ ?_))
    refine cw_seq fun K5 k5 => cw_region ?_
    refine sc (dc_lit (vs := []) (xs := ([] : List api_Label)) (base := w.heap.size) el31 rfl rfl .nil (Nat.le_of_ble_eq_true rfl) C.up.size C.sb fun u w1 ho hb up => ?_)
    replace h0 := h0.nw up
    replace C := C.new up
    refine sv rv_move (sc (dc_append el31 (by decide) ho (h0.src fun _ h => h) rfl rfl (clone_app h) C.up.size C.sb fun u2 w2 ho2 up2 hb2 => ?_))
    replace C := C.ow ho up2
    exact sv rv_assign (W.e (k5 _ _ (cw_ret ⟨_, rfl, S, _, rfl, C, ho2⟩)))

noncomputable def cmp_isNaN_string (a0 : ByteArray) : Option Bool :=
  some (!strEq a0 a0)
theorem cmp_isNaN_string_w {S : Nat → Prop} {w : World} {a0 : ByteArray} {r : Bool} (hS : Sb S w)  (h : cmp_isNaN_string a0 = some r) :
    Calls Tryz.prog 121 (List.toArray [.string a0]) w fun e w1 => ∃ S1, e = .returned (.bool r) ∧ Cx No S w S1 w1 := by
  refine enter Tryz.func121 rfl (by kernel_rfl) rfl ?_
  have C := Cx.refl (F := No) hS
  unfold cmp_isNaN_string at h
  refine cw_seq fun K1 k2 => ?_
  refine cw_region (sv (asv (.bool false) rfl) (W.e (k2 _ _ ?_)))
  refine cw_seq fun K3 k4 => ?_
  refine cw_region (sv (mvv (.string a0) rfl) (sv (mvv (.string a0) rfl) (sv (rv_sneq rfl rfl) (sv (asv (.bool (!strEq a0 a0)) rfl) (W.e (k4 _ _ (cw_ret ?_)))))))
  obtain rfl := osi h
  exact ⟨_, rfl, _, rfl, C⟩

noncomputable def cmp_Compare_string (a0 : ByteArray) (a1 : ByteArray) : Option Int :=
  ((cmp_isNaN_string a0).bind fun y5 => ((cmp_isNaN_string a1).bind fun y12 => (bif y5 then (bif y12 then some (0 : Int) else some (-1 : Int)) else (bif y12 then some (1 : Int) else (bif (strLt a0 a1) then some (-1 : Int) else (bif (!(strLt a0 a1 || strEq a0 a1)) then some (1 : Int) else some (0 : Int)))))))
theorem cmp_Compare_string_w {S : Nat → Prop} {w : World} {a0 : ByteArray} {a1 : ByteArray} {r : Int} (hS : Sb S w)  (h : cmp_Compare_string a0 a1 = some r) :
    Calls Tryz.prog 92 (List.toArray [.string a0, .string a1]) w fun e w1 => ∃ S1, e = .returned (.int .i64 r) ∧ Cx No S w S1 w1 := by
  refine enter Tryz.func92 rfl (by kernel_rfl) rfl ?_
  have C := Cx.refl (F := No) hS
  unfold cmp_Compare_string at h
  refine cw_seq fun K1 k2 => ?_
  refine cw_region (sv (asv (.int .i64 0) rfl) (W.e (k2 _ _ ?_)))
  refine cw_seq fun K3 k4 => ?_
  refine cw_region (sv (mvv (.string a0) rfl) ?_)
  obtain ⟨y5, h6, h⟩ := bnd_some h
  refine sc (dc_call (vs := [.string a0]) can121 rfl ?_)
  refine (cmp_isNaN_string_w C.sb  h6).mono ?_
  rintro _ w7 ⟨S8, rfl, c9⟩
  refine ⟨_, rfl, ?_⟩
  replace C := C.trans c9
  refine sv (asv (.bool y5) rfl) (W.e (k4 _ _ ?_))
  refine cw_seq fun K10 k11 => ?_
  refine cw_region (sv (mvv (.string a1) rfl) ?_)
  obtain ⟨y12, h13, h⟩ := bnd_some h
  refine sc (dc_call (vs := [.string a1]) can121 rfl ?_)
  refine (cmp_isNaN_string_w C.sb  h13).mono ?_
  rintro _ w14 ⟨S15, rfl, c16⟩
  refine ⟨_, rfl, ?_⟩
  replace C := C.trans c16
  refine sv (asv (.bool y12) rfl) (W.e (k11 _ _ ?_))
  refine cw_seq fun K17 k18 => ?_
  refine cw_seq fun K19 k20 => ?_
  refine cw_region (sv (mvv (.bool y5) rfl) (W.e (k20 _ _ ?_)))
  rcases bif_some h with ⟨b21, h⟩ | ⟨b21, h⟩
  · refine cw_t rfl b21 ?_
    refine cw_seq fun K22 k23 => ?_
    refine cw_seq fun K24 k25 => ?_
    refine cw_region (sv (mvv (.bool y12) rfl) (W.e (k25 _ _ ?_)))
    rcases bif_some h with ⟨b26, h⟩ | ⟨b26, h⟩
    · refine cw_t rfl b26 ?_
      refine cw_seq fun K27 k28 => ?_
      refine cw_region (sv (asv (.int .i64 0) rfl) (W.e (k28 _ _ (cw_ret ?_))))
      obtain rfl := osi h
      exact ⟨_, rfl, _, rfl, C⟩
    · refine cw_f rfl b26 (cw_skip (k23 _ _ ?_))
      refine cw_seq fun K29 k30 => ?_
      refine cw_region (sv (asv (.int .i64 (-1)) rfl) (W.e (k30 _ _ (cw_ret ?_))))
      obtain rfl := osi h
      exact ⟨_, rfl, _, rfl, C⟩
  · refine cw_f rfl b21 (cw_skip (k18 _ _ ?_))
    refine cw_seq fun K31 k32 => ?_
    refine cw_seq fun K33 k34 => ?_
    refine cw_region (sv (mvv (.bool y12) rfl) (W.e (k34 _ _ ?_)))
    rcases bif_some h with ⟨b35, h⟩ | ⟨b35, h⟩
    · refine cw_t rfl b35 ?_
      refine cw_seq fun K36 k37 => ?_
      refine cw_region (sv (asv (.int .i64 1) rfl) (W.e (k37 _ _ (cw_ret ?_))))
      obtain rfl := osi h
      exact ⟨_, rfl, _, rfl, C⟩
    · refine cw_f rfl b35 (cw_skip (k32 _ _ ?_))
      refine cw_seq fun K38 k39 => ?_
      refine cw_seq fun K40 k41 => ?_
      refine cw_region (sv (mvv (.string a0) rfl) (sv (mvv (.string a1) rfl) (sv (rv_slss rfl rfl) (W.e (k41 _ _ ?_)))))
      rcases bif_some h with ⟨b42, h⟩ | ⟨b42, h⟩
      · refine cw_t rfl b42 ?_
        refine cw_seq fun K43 k44 => ?_
        refine cw_region (sv (asv (.int .i64 (-1)) rfl) (W.e (k44 _ _ (cw_ret ?_))))
        obtain rfl := osi h
        exact ⟨_, rfl, _, rfl, C⟩
      · refine cw_f rfl b42 (cw_skip (k39 _ _ ?_))
        refine cw_seq fun K45 k46 => ?_
        refine cw_seq fun K47 k48 => ?_
        refine cw_region (sv (mvv (.string a0) rfl) (sv (mvv (.string a1) rfl) (sv (rv_sgtr rfl rfl) (W.e (k48 _ _ ?_)))))
        rcases bif_some h with ⟨b49, h⟩ | ⟨b49, h⟩
        · refine cw_t rfl b49 ?_
          refine cw_seq fun K50 k51 => ?_
          refine cw_region (sv (asv (.int .i64 1) rfl) (W.e (k51 _ _ (cw_ret ?_))))
          obtain rfl := osi h
          exact ⟨_, rfl, _, rfl, C⟩
        · refine cw_f rfl b49 (cw_skip (k46 _ _ ?_))
          refine cw_seq fun K52 k53 => ?_
          refine cw_region (sv (asv (.int .i64 0) rfl) (W.e (k53 _ _ (cw_ret ?_))))
          obtain rfl := osi h
          exact ⟨_, rfl, _, rfl, C⟩

noncomputable def label_Sort_1 (a0 : api_Label) (a1 : api_Label) : Option Int :=
  ((cmp_Compare_string a0.Name a1.Name).bind fun y17 => some y17)
theorem label_Sort_1_w {S : Nat → Prop} {w : World} {a0 : api_Label} {a1 : api_Label} {v0 v1 : Value} {r : Int} (hS : Sb S w) (h0 : Sl api_Label.k S w v0 a0) (h1 : Sl api_Label.k S w v1 a1) (h : label_Sort_1 a0 a1 = some r) :
    Calls Tryz.prog 91 (List.toArray [v0, v1]) w fun e w1 => ∃ S1, e = .returned (.int .i64 r) ∧ Cx No S w S1 w1 := by
  refine enter Tryz.func91 rfl (by kernel_rfl) rfl ?_
  have C := Cx.refl (F := No) hS
  unfold label_Sort_1 at h
  obtain rfl := api_Label.o.1 h0
  obtain rfl := api_Label.o.1 h1
  refine cw_seq fun K1 k2 => ?_
  refine cw_region ?_
  refine sc (dc_boxS C.sb rfl fun b3 S4 w5 c6 h7 => ?_)
  replace C := C.trans c6
  refine sc (dc_boxS C.sb rfl fun b9 S10 w11 c12 h13 => ?_)
  replace h7 := h7.cx c12
  replace C := C.trans c12
  refine sv (asv (.int .i64 0) rfl) (W.e (k2 _ _ ?_))
  refine cw_seq fun K15 k16 => ?_
  refine cw_region (sv (rv_fieldAddr st46 rfl rfl) (sr (rw_bk ag9 h7.2 rfl rfl) (sv (rv_fieldAddr st46 rfl rfl) (sr (rw_bk ag9 h13.2 rfl rfl) ?_))))
  obtain ⟨y17, h18, h⟩ := bnd_some h
  refine sc (dc_call (vs := [.string a0.Name, .string a1.Name]) can92 rfl ?_)
  refine (cmp_Compare_string_w C.sb  h18).mono ?_
  rintro _ w19 ⟨S20, rfl, c21⟩
  refine ⟨_, rfl, ?_⟩
  replace C := C.trans c21
  refine sv (asv (.int .i64 y17) rfl) (W.e (k16 _ _ (cw_ret ?_)))
  obtain rfl := osi h
  exact ⟨_, rfl, _, rfl, C⟩

noncomputable def slices_insertionSortCmpFunc_api_Label__label_Sort_1.b3 (a1 : Int) (x32 : List api_Label) (x33 : Int) : Option (((List api_Label) × Int) ⊕ ((List api_Label))) :=
  (((bif (decide (a1 < x33)) then ((at_ x32 x33).bind fun y48 => (pur (IntKind.i64.wrap (x33 - (1 : Int))) fun y53 => ((at_ x32 y53).bind fun y55 => ((label_Sort_1 y48 y55).bind fun y60 => some (x32, (decide (y60 < (0 : Int)))))))) else some (x32, false)).bind fun o40 => (bif o40.2 then some (.inl o40.1) else some (.inr (.inr o40.1)))).bind (Sum.elim (fun o36n => (pur (IntKind.i64.wrap (x33 - (1 : Int))) fun y84 => (pur (IntKind.i64.wrap (x33 - (1 : Int))) fun y86 => ((at_ o36n y86).bind fun y88 => ((at_ o36n x33).bind fun y93 => ((at_ o36n x33).bind fun y98 => (pur (o36n.set (x33).toNat y88) fun y100 => ((at_ y100 y84).bind fun y107 => (pur (y100.set (y84).toNat y93) fun y109 => (pur (IntKind.i64.wrap (x33 - (1 : Int))) fun y116 => some (.inl (y109, y116)))))))))))) (fun q => some q)))
noncomputable def slices_insertionSortCmpFunc_api_Label__label_Sort_1.b1 (a1 : Int) (a2 : Int) (x11 : List api_Label) (x12 : Int) : Option (((List api_Label) × Int) ⊕ ((List api_Label))) :=
  (bif (decide (x12 < a2)) then ((iter (fun s : (List api_Label) × Int => slices_insertionSortCmpFunc_api_Label__label_Sort_1.b3 a1 s.1 s.2) (x11, x12)).bind fun o20 => (pur (IntKind.i64.wrap (x12 + (1 : Int))) fun y123 => some (.inl (o20, y123)))) else some (.inr x11))
noncomputable def slices_insertionSortCmpFunc_api_Label__label_Sort_1 (a0 : List api_Label) (a1 : Int) (a2 : Int) : Option (List api_Label) :=
  (pur (IntKind.i64.wrap (a1 + (1 : Int))) fun y3 => (iter (fun s : (List api_Label) × Int => slices_insertionSortCmpFunc_api_Label__label_Sort_1.b1 a1 a2 s.1 s.2) (a0, y3)))
theorem slices_insertionSortCmpFunc_api_Label__label_Sort_1_w {S : Nat → Prop} {w : World} {a0 : List api_Label} {a1 : Int} {a2 : Int} {v0 : Value} {base0 : Nat} {r : (List api_Label)} (hS : Sb S w) (h0 : Ow api_Label.k 46 S base0 w v0 a0) (h : slices_insertionSortCmpFunc_api_Label__label_Sort_1 a0 a1 a2 = some r) :
    Calls Tryz.prog 137 (List.toArray [v0, .int .i64 a1, .int .i64 a2, .func (.func 91) #[] #[]]) w fun e w1 => ∃ S1, e = .returned (.tuple (List.toArray [])) ∧ Cx (Blk v0) S w S1 w1 ∧ Ow api_Label.k 46 S1 base0 w1 v0 r := by
  refine enter Tryz.func137 rfl (by kernel_rfl) rfl ?_
  have C := Cx.refl (F := (Blk v0)) hS
  unfold slices_insertionSortCmpFunc_api_Label__label_Sort_1 at h
  refine cw_seq fun K1 k2 => ?_
  refine cw_region (sv (mvv (.int .i64 a1) rfl) ?_)
  obtain ⟨y3, h4, h⟩ := pur_some h
  refine sv (rv_add rfl rfl h4) (sv (asv (.int .i64 y3) rfl) (W.e (k2 _ _ (cw_block ?_))))
  refine cw_iter h (fun s ρ w1 => ∃ S1, Cx (Blk v0) S w S1 w1 ∧ Has ρ [(0, v0), (1, .int .i64 a1), (2, .int .i64 a2), (3, .func (.func 91) #[] #[]), (8, .int .i64 s.2)] ∧ Ow api_Label.k 46 S1 base0 w1 v0 s.1) ⟨_, C, ⟨rfl, rfl, rfl, rfl, rfl, trivial⟩, h0⟩ ?_
  rintro ⟨x11, x12⟩ q5 ρ w7 ⟨S6, C, h10, h9⟩ h14 h13
  refine h10.cw fun ρ => ?_
  clear h10
  replace h14 : slices_insertionSortCmpFunc_api_Label__label_Sort_1.b1 a1 a2 x11 x12 = some q5 := h14
  unfold slices_insertionSortCmpFunc_api_Label__label_Sort_1.b1 at h14
  refine cw_seq fun K15 k16 => ?_
  refine cw_seq fun K17 k18 => ?_
  refine cw_region (sv (mvv (.int .i64 x12) rfl) (sv (mvv (.int .i64 a2) rfl) (sv (rv_lss rfl rfl) (W.e (k18 _ _ ?_)))))
  rcases bif_some h14 with ⟨b19, h14⟩ | ⟨b19, h14⟩
  · refine cw_t rfl b19 (cw_skip (k16 _ _ ?_))
    obtain ⟨o20, h23, h14⟩ := bnd_some h14
    refine cw_seq' (fun ρ w1 => ∃ S1, Cx (Blk v0) S w S1 w1 ∧ Has ρ [(0, v0), (1, .int .i64 a1), (2, .int .i64 a2), (3, .func (.func 91) #[] #[]), (8, .int .i64 x12)] ∧ Ow api_Label.k 46 S1 base0 w1 v0 o20) ?_ ?_
    · refine cw_block ?_
      refine cw_seq fun K24 k25 => ?_
      refine cw_region (sv (mvv (.int .i64 x12) rfl) (sv (asv (.int .i64 x12) rfl) (W.e (k25 _ _ (cw_block ?_)))))
      refine cw_iter h23 (fun s ρ w1 => ∃ S1, Cx (Blk v0) S w S1 w1 ∧ Has ρ [(0, v0), (1, .int .i64 a1), (2, .int .i64 a2), (3, .func (.func 91) #[] #[]), (8, .int .i64 x12), (9, .int .i64 s.2)] ∧ Ow api_Label.k 46 S1 base0 w1 v0 s.1) ⟨_, C, ⟨rfl, rfl, rfl, rfl, rfl, rfl, trivial⟩, h9⟩ ?_
      rintro ⟨x32, x33⟩ q26 ρ w28 ⟨S27, C, h31, h30⟩ h35 h34
      refine h31.cw fun ρ => ?_
      clear h31
      replace h35 : slices_insertionSortCmpFunc_api_Label__label_Sort_1.b3 a1 x32 x33 = some q26 := h35
      unfold slices_insertionSortCmpFunc_api_Label__label_Sort_1.b3 at h35
      obtain ⟨o36, h39, h35⟩ := bnds_some h35
      refine cw_seq' (fun ρ w1 => ∃ o36n, o36 = (.inl o36n) ∧ ∃ S1, Cx (Blk v0) S w S1 w1 ∧ Has ρ [(0, v0), (1, .int .i64 a1), (2, .int .i64 a2), (3, .func (.func 91) #[] #[]), (8, .int .i64 x12), (9, .int .i64 x33)] ∧ Ow api_Label.k 46 S1 base0 w1 v0 o36n) ?_ ?_
      · obtain ⟨o40, h43, h39⟩ := bnd_some h39
        refine cw_seq' (fun ρ w1 => ∃ S1, Cx (Blk v0) S w S1 w1 ∧ Has ρ [(0, v0), (1, .int .i64 a1), (2, .int .i64 a2), (3, .func (.func 91) #[] #[]), (8, .int .i64 x12), (9, .int .i64 x33), (34, .bool o40.2)] ∧ Ow api_Label.k 46 S1 base0 w1 v0 o40.1) ?_ ?_
        · refine cw_drawU (.one 0 true (.one 1 true (.one 2 true (.one 3 true (.one 4 true (.one 5 true (.one 6 true (.one 7 true (.one 8 true (.one 9 true (.one 10 true (.one 11 true (.one 12 true (.one 13 true (.one 14 false (.one 15 true (.one 16 true .done))))))))))))))))) [(8, [9]), (13, [9])] [(14, [])] (fun c => bif Nat.beq c 9 then (fun _ => True) else No) fol (by kernel_rfl) fun w44 u45 => ?_
          replace h30 := h30.nw u45
          replace C := C.new u45
          have h30d := h30
          have m46 := Sm.refl (fun _ => True) w44
          refine mtv rfl rfl (mvv (.int .i64 x33) rfl) (mtv rfl rfl (mvv (.int .i64 a1) rfl) (mtv rfl rfl (rv_gtr rfl rfl) (mtv rfl rfl (mvv (.bool (decide (a1 < x33))) rfl) ?_)))
          rcases bif_some h43 with ⟨b47, h43⟩ | ⟨b47, h43⟩
          · refine MT.vv rfl rfl (gy rfl rfl rfl b47) (mvv (.func (.func 91) #[] #[]) rfl) (MT.vv rfl rfl (gy rfl rfl rfl b47) (mvv v0 rfl) (MT.vv rfl rfl (gy rfl rfl rfl b47) (mvv (.int .i64 x33) rfl) ?_))
            obtain ⟨y48, h49, h43⟩ := bnd_some h43
            refine MT.vv rfl rfl (gy rfl rfl rfl b47) (rv_index el31 h30.sealed rfl rfl h49) ?_
            obtain ⟨v50, h51, h52⟩ := rw_loadO (P := Tryz.prog) el31 h30 h49
            obtain rfl := api_Label.o.1 h51
            refine MT.r rfl rfl (gy rfl rfl rfl b47) ⟨m46, trivial⟩ (fun w' hq => h52 w' (hq.1.mono fun _ _ => trivial) rfl) (MT.vv rfl rfl (gy rfl rfl rfl b47) (mvv v0 rfl) (MT.vv rfl rfl (gy rfl rfl rfl b47) (mvv (.int .i64 x33) rfl) ?_))
            obtain ⟨y53, h54, h43⟩ := pur_some h43
            refine MT.vv rfl rfl (gy rfl rfl rfl b47) (rv_sub rfl rfl h54) ?_
            obtain ⟨y55, h56, h43⟩ := bnd_some h43
            refine MT.vv rfl rfl (gy rfl rfl rfl b47) (rv_index el31 h30.sealed rfl rfl h56) ?_
            obtain ⟨v57, h58, h59⟩ := rw_loadO (P := Tryz.prog) el31 h30 h56
            obtain rfl := api_Label.o.1 h58
            refine MT.r rfl rfl (gy rfl rfl rfl b47) ⟨m46, trivial⟩ (fun w' hq => h59 w' (hq.1.mono fun _ _ => trivial) rfl) ?_
            obtain ⟨y60, h61, h43⟩ := bnd_some h43
            refine MT.c rfl rfl (gy rfl rfl rfl b47) (dc_callV rfl (vs := [.agg (List.toArray [.string y48.Name, .string y48.Val]), .agg (List.toArray [.string y55.Name, .string y55.Val])]) can91 rfl ?_)
            refine (label_Sort_1_w C.sb ((api_Label.o (x := y48)).2 rfl) ((api_Label.o (x := y55)).2 rfl) h61).mono ?_
            rintro _ w62 ⟨S63, rfl, c64⟩
            refine ⟨_, rfl, ?_⟩
            replace h30 := h30.cx c64
            replace C := C.trans c64
            have z65 := (c64.up).size
            have m66 := m46.nx c64.up (by omega)
            refine ⟨trivial, ?_⟩
            refine MT.vv rfl rfl (gy rfl rfl rfl b47) (rv_lss rfl rfl) (mtv rfl rfl (ptk (.bool (decide (y60 < (0 : Int)))) rfl b47 rfl) (MT.e ?_))
            obtain rfl := osi h43
            exact ⟨_, C, ⟨rfl, rfl, rfl, rfl, rfl, rfl, rfl, trivial⟩, h30⟩
          · refine MT.n rfl rfl (gn rfl rfl rfl b47) trivial (MT.n rfl rfl (gn rfl rfl rfl b47) trivial (MT.n rfl rfl (gn rfl rfl rfl b47) trivial (MT.n rfl rfl (gn rfl rfl rfl b47) trivial (MT.n rfl rfl (gn rfl rfl rfl b47) ⟨m46, trivial⟩ (MT.n rfl rfl (gn rfl rfl rfl b47) trivial (MT.n rfl rfl (gn rfl rfl rfl b47) trivial (MT.n rfl rfl (gn rfl rfl rfl b47) trivial (MT.n rfl rfl (gn rfl rfl rfl b47) trivial (MT.n rfl rfl (gn rfl rfl rfl b47) ⟨m46, trivial⟩ (MT.m rfl rfl (gn rfl rfl rfl b47) trivial (MT.n rfl rfl (gn rfl rfl rfl b47) trivial ?_)))))))))))
            refine mtv rfl rfl (pfk (.bool false) rfl b47 rfl) (MT.e ?_)
            obtain rfl := osi h43
            exact ⟨_, C, ⟨rfl, rfl, rfl, rfl, rfl, rfl, rfl, trivial⟩, h30⟩
        · rintro ρ w68 ⟨S67, C, h71, h70⟩
          refine h71.cw fun ρ => ?_
          clear h71
          rcases bif_some h39 with ⟨b72, h39⟩ | ⟨b72, h39⟩
          · refine cw_t rfl b72 (cw_skip ?_)
            obtain rfl := osi h39
            exact ⟨_, rfl, ⟨_, C, ⟨rfl, rfl, rfl, rfl, rfl, rfl, trivial⟩, h70⟩⟩
          · refine cw_f rfl b72 (cw_exit ?_)
            obtain rfl := osi h39
            replace h35 := h35.2 _ rfl
            obtain rfl := osi h35
            have h73 := congrArg some h34
            obtain rfl := osi h73
            exact ⟨_, C, ⟨rfl, rfl, rfl, rfl, rfl, trivial⟩, h70⟩
      · rintro ρ w75 ⟨o36n, rfl, ⟨S74, C, h78, h77⟩⟩
        replace h35 := h35.1 _ rfl
        refine h78.cw fun ρ => ?_
        clear h78
        refine cw_seq fun K79 k80 => ?_
        refine cw_block ?_
        refine cw_drawU (.one 0 true (.one 1 true (.one 2 true (.one 3 true (.one 4 true (.one 5 true (.one 6 true (.one 7 true (.one 8 true (.one 9 true (.one 10 true (.one 11 true (.one 12 true (.one 13 true (.one 14 true (.one 15 false (.one 16 true (.one 17 false .done)))))))))))))))))) [(9, [1000]), (13, [1000])] [(15, []), (17, [])] (fun c => bif Nat.beq c 1000 then (Or S74 (Blk v0)) else No) fol (by kernel_rfl) fun w81 u82 => ?_
        replace h77 := h77.nw u82
        replace C := C.new u82
        have h77d := h77
        have m83 := Sm.refl (Or S74 (Blk v0)) w81
        refine mtv rfl rfl (mvv v0 rfl) (mtv rfl rfl (mvv (.int .i64 x33) rfl) (mtv rfl rfl (mvv v0 rfl) (mtv rfl rfl (mvv (.int .i64 x33) rfl) ?_)))
        obtain ⟨y84, h85, h35⟩ := pur_some h35
        refine mtv rfl rfl (rv_sub rfl rfl h85) (mtv rfl rfl (mvv v0 rfl) (mtv rfl rfl (mvv (.int .i64 x33) rfl) ?_))
        obtain ⟨y86, h87, h35⟩ := pur_some h35
        refine mtv rfl rfl (rv_sub rfl rfl h87) ?_
        obtain ⟨y88, h89, h35⟩ := bnd_some h35
        refine mtv rfl rfl (rv_index el31 h77.sealed rfl rfl h89) ?_
        obtain ⟨v90, h91, h92⟩ := rw_loadO (P := Tryz.prog) el31 h77 h89
        obtain rfl := api_Label.o.1 h91
        refine mtr rfl rfl ⟨m83, trivial⟩ (fun w' hq => h92 w' hq.1 rfl) (mtv rfl rfl (mvv v0 rfl) (mtv rfl rfl (mvv (.int .i64 x33) rfl) ?_))
        obtain ⟨y93, h94, h35⟩ := bnd_some h35
        refine mtv rfl rfl (rv_index el31 h77.sealed rfl rfl h94) ?_
        obtain ⟨v95, h96, h97⟩ := rw_loadO (P := Tryz.prog) el31 h77 h94
        obtain rfl := api_Label.o.1 h96
        refine mtr rfl rfl ⟨m83, trivial⟩ (fun w' hq => h97 w' hq.1 rfl) ?_
        obtain ⟨y98, h99, h35⟩ := bnd_some h35
        refine mtv rfl rfl (rv_index el31 h77.sealed rfl rfl h99) ?_
        obtain ⟨y100, h101, h35⟩ := pur_some h35
        have h105 := h77
        refine mtc rfl rfl (dc_storeO el31 h105 h99 rfl rfl (((api_Label.o (x := y88)).2 rfl)) fun w102 h103 u104 => ?_)
        rw [h101] at h103
        replace C := C.ofp u104 (fun b hb => .inl hb)
        have z106 := (u104).size
        refine ⟨trivial, ?_⟩
        obtain ⟨y107, h108, h35⟩ := bnd_some h35
        refine mtv rfl rfl (rv_index el31 h103.sealed rfl rfl h108) ?_
        obtain ⟨y109, h110, h35⟩ := pur_some h35
        have h114 := h103
        refine mtc rfl rfl (dc_storeO el31 h114 h108 rfl rfl (((api_Label.o (x := y93)).2 rfl)) fun w111 h112 u113 => ?_)
        rw [h110] at h112
        replace C := C.ofp u113 (fun b hb => .inl hb)
        have z115 := (u113).size
        refine ⟨trivial, ?_⟩
        refine MT.e (k80 _ _ (cw_region (sv (mvv (.int .i64 x33) rfl) ?_)))
        obtain ⟨y116, h117, h35⟩ := pur_some h35
        refine sv (rv_sub rfl rfl h117) (sv (asv (.int .i64 y116) rfl) (W.e ?_))
        obtain rfl := osi h35
        exact ⟨_, rfl, ⟨_, C, ⟨rfl, rfl, rfl, rfl, rfl, rfl, trivial⟩, h112⟩⟩
    · rintro ρ w119 ⟨S118, C, h122, h121⟩
      refine h122.cw fun ρ => ?_
      clear h122
      refine cw_region (sv (mvv (.int .i64 x12) rfl) ?_)
      obtain ⟨y123, h124, h14⟩ := pur_some h14
      refine sv (rv_add rfl rfl h124) (sv (asv (.int .i64 y123) rfl) (W.e ?_))
      obtain rfl := osi h14
      exact ⟨_, rfl, ⟨_, C, ⟨rfl, rfl, rfl, rfl, rfl, trivial⟩, h121⟩⟩
  · refine cw_f rfl b19 (cw_exit ?_)
    obtain rfl := osi h14
    have h125 := congrArg some h13
    obtain rfl := osi h125
    exact ⟨_, rfl, _, rfl, C, h9⟩

def slices_symMergeCmpFunc_api_Label__label_Sort_1 (_ : Nat) (_ : List api_Label) (_ _ _ : Int) : Option (List api_Label) := none
theorem slices_symMergeCmpFunc_api_Label__label_Sort_1_w (n : Nat) : ∀ {S : Nat → Prop} {w : World} {a0 : List api_Label} {a1 : Int} {a2 : Int} {a3 : Int} {v0 : Value} {base0 : Nat} {r : (List api_Label)} (hS : Sb S w) (h0 : Ow api_Label.k 46 S base0 w v0 a0) (h : slices_symMergeCmpFunc_api_Label__label_Sort_1 n a0 a1 a2 a3 = some r),
    Calls Tryz.prog 138 (List.toArray [v0, .int .i64 a1, .int .i64 a2, .int .i64 a3, .func (.func 91) #[] #[]]) w fun e w1 => ∃ S1, e = .returned (.tuple (List.toArray [])) ∧ Cx (Blk v0) S w S1 w1 ∧ Ow api_Label.k 46 S1 base0 w1 v0 r := by
  intros; rename_i h; cases h
noncomputable def slices_stableCmpFunc_api_Label__label_Sort_1.b2 (a1 : Int) (x15 : List api_Label) (x16 : Int) (x17 : Int) : Option (((List api_Label) × Int × Int) ⊕ ((List api_Label) × Int)) :=
  (bif (decide (x17 ≤ a1)) then ((slices_insertionSortCmpFunc_api_Label__label_Sort_1 x15 x16 x17).bind fun y27 => (pur (IntKind.i64.wrap (x17 + (20 : Int))) fun y38 => some (.inl (y27, x17, y38)))) else some (.inr (x15, x16)))
noncomputable def slices_stableCmpFunc_api_Label__label_Sort_1.b5 (a1 : Int) (x64 : Int) (x86 : List api_Label) (x87 : Int) (x88 : Int) : Option (((List api_Label) × Int × Int) ⊕ ((List api_Label) × Int)) :=
  (bif (decide (x88 ≤ a1)) then (pur (IntKind.i64.wrap (x87 + x64)) fun y98 => ((slices_symMergeCmpFunc_api_Label__label_Sort_1 64 x86 x87 y98 x88).bind fun y100 => (pur (IntKind.i64.wrap ((2 : Int) * x64)) fun y111 => (pur (IntKind.i64.wrap (x88 + y111)) fun y113 => some (.inl (y100, x88, y113)))))) else some (.inr (x86, x87)))
noncomputable def slices_stableCmpFunc_api_Label__label_Sort_1.b3 (a1 : Int) (x63 : List api_Label) (x64 : Int) : Option (((List api_Label) × Int) ⊕ ((List api_Label))) :=
  (bif (decide (x64 < a1)) then (pur (IntKind.i64.wrap ((2 : Int) * x64)) fun y74 => ((iter (fun s : (List api_Label) × Int × Int => slices_stableCmpFunc_api_Label__label_Sort_1.b5 a1 x64 s.1 s.2.1 s.2.2) (x63, (0 : Int), y74)).bind fun o76 => ((pur (IntKind.i64.wrap (o76.2 + x64)) fun y127 => (bif (decide (y127 < a1)) then ((slices_symMergeCmpFunc_api_Label__label_Sort_1 64 o76.1 o76.2 y127 a1).bind fun y132 => some y132) else some o76.1)).bind fun o121 => (pur (IntKind.i64.wrap (x64 * (2 : Int))) fun y146 => some (.inl (o121, y146)))))) else some (.inr x63))
noncomputable def slices_stableCmpFunc_api_Label__label_Sort_1 (a0 : List api_Label) (a1 : Int) : Option (List api_Label) :=
  ((iter (fun s : (List api_Label) × Int × Int => slices_stableCmpFunc_api_Label__label_Sort_1.b2 a1 s.1 s.2.1 s.2.2) (a0, (0 : Int), (20 : Int))).bind fun o5 => ((slices_insertionSortCmpFunc_api_Label__label_Sort_1 o5.1 o5.2 a1).bind fun y48 => (iter (fun s : (List api_Label) × Int => slices_stableCmpFunc_api_Label__label_Sort_1.b3 a1 s.1 s.2) (y48, (20 : Int)))))
theorem slices_stableCmpFunc_api_Label__label_Sort_1_w {S : Nat → Prop} {w : World} {a0 : List api_Label} {a1 : Int} {v0 : Value} {base0 : Nat} {r : (List api_Label)} (hS : Sb S w) (h0 : Ow api_Label.k 46 S base0 w v0 a0) (h : slices_stableCmpFunc_api_Label__label_Sort_1 a0 a1 = some r) :
    Calls Tryz.prog 120 (List.toArray [v0, .int .i64 a1, .func (.func 91) #[] #[]]) w fun e w1 => ∃ S1, e = .returned (.tuple (List.toArray [])) ∧ Cx (Blk v0) S w S1 w1 ∧ Ow api_Label.k 46 S1 base0 w1 v0 r := by
  refine enter Tryz.func120 rfl (by kernel_rfl) rfl ?_
  have C := Cx.refl (F := (Blk v0)) hS
  unfold slices_stableCmpFunc_api_Label__label_Sort_1 at h
  refine cw_seq fun K1 k2 => ?_
  refine cw_region (sv (asv (.int .i64 20) rfl) (W.e (k2 _ _ ?_)))
  refine cw_seq fun K3 k4 => ?_
  refine cw_region (sv (mvv (.int .i64 20) rfl) (sv (asv (.int .i64 0) rfl) (sv (asv (.int .i64 20) rfl) (W.e (k4 _ _ ?_)))))
  obtain ⟨o5, h8, h⟩ := bnd_some h
  refine cw_seq' (fun ρ w1 => ∃ S1, Cx (Blk v0) S w S1 w1 ∧ Has ρ [(0, v0), (1, .int .i64 a1), (2, .func (.func 91) #[] #[]), (6, .int .i64 20), (7, .int .i64 o5.2)] ∧ Ow api_Label.k 46 S1 base0 w1 v0 o5.1) ?_ ?_
  · refine cw_block ?_
    refine cw_iter h8 (fun s ρ w1 => ∃ S1, Cx (Blk v0) S w S1 w1 ∧ Has ρ [(0, v0), (1, .int .i64 a1), (2, .func (.func 91) #[] #[]), (6, .int .i64 20), (7, .int .i64 s.2.1), (8, .int .i64 s.2.2)] ∧ Ow api_Label.k 46 S1 base0 w1 v0 s.1) ⟨_, C, ⟨rfl, rfl, rfl, rfl, rfl, rfl, trivial⟩, h0⟩ ?_
    rintro ⟨x15, x16, x17⟩ q9 ρ w11 ⟨S10, C, h14, h13⟩ h19 h18
    refine h14.cw fun ρ => ?_
    clear h14
    replace h19 : slices_stableCmpFunc_api_Label__label_Sort_1.b2 a1 x15 x16 x17 = some q9 := h19
    unfold slices_stableCmpFunc_api_Label__label_Sort_1.b2 at h19
    refine cw_seq fun K20 k21 => ?_
    refine cw_seq fun K22 k23 => ?_
    refine cw_region (sv (mvv (.int .i64 x17) rfl) (sv (mvv (.int .i64 a1) rfl) (sv (rv_leq rfl rfl) (W.e (k23 _ _ ?_)))))
    rcases bif_some h19 with ⟨b24, h19⟩ | ⟨b24, h19⟩
    · refine cw_t rfl b24 (cw_skip (k21 _ _ (cw_block ?_)))
      refine cw_seq fun K25 k26 => ?_
      refine cw_region (sv (mvv v0 rfl) (sv (mvv (.int .i64 x16) rfl) (sv (mvv (.int .i64 x17) rfl) (sv (mvv (.func (.func 91) #[] #[]) rfl) ?_))))
      obtain ⟨y27, h28, h19⟩ := bnd_some h19
      refine sc (dc_call (vs := [v0, .int .i64 x16, .int .i64 x17, .func (.func 91) #[] #[]]) can137 rfl ?_)
      refine (slices_insertionSortCmpFunc_api_Label__label_Sort_1_w C.sb h13 h28).mono ?_
      rintro _ w29 ⟨S34, rfl, c35, h31⟩
      refine ⟨_, rfl, ?_⟩
      replace C := C.ofc c35 (fun b hb => .inl hb)
      refine W.e (k26 _ _ ?_)
      refine cw_seq fun K36 k37 => ?_
      refine cw_region (sv (mvv (.int .i64 x17) rfl) (sv (asv (.int .i64 x17) rfl) (W.e (k37 _ _ (cw_region (sv (mvv (.int .i64 x17) rfl) (sv (mvv (.int .i64 20) rfl) ?_)))))))
      obtain ⟨y38, h39, h19⟩ := pur_some h19
      refine sv (rv_add rfl rfl h39) (sv (asv (.int .i64 y38) rfl) (W.e ?_))
      obtain rfl := osi h19
      exact ⟨_, rfl, ⟨_, C, ⟨rfl, rfl, rfl, rfl, rfl, rfl, trivial⟩, h31⟩⟩
    · refine cw_f rfl b24 (cw_exit ?_)
      obtain rfl := osi h19
      have h40 := congrArg some h18
      obtain rfl := osi h40
      exact ⟨_, C, ⟨rfl, rfl, rfl, rfl, rfl, trivial⟩, h13⟩
  · rintro ρ w42 ⟨S41, C, h45, h44⟩
    refine h45.cw fun ρ => ?_
    clear h45
    refine cw_seq fun K46 k47 => ?_
    refine cw_region (sv (mvv v0 rfl) (sv (mvv (.int .i64 o5.2) rfl) (sv (mvv (.int .i64 a1) rfl) (sv (mvv (.func (.func 91) #[] #[]) rfl) ?_))))
    obtain ⟨y48, h49, h⟩ := bnd_some h
    refine sc (dc_call (vs := [v0, .int .i64 o5.2, .int .i64 a1, .func (.func 91) #[] #[]]) can137 rfl ?_)
    refine (slices_insertionSortCmpFunc_api_Label__label_Sort_1_w C.sb h44 h49).mono ?_
    rintro _ w50 ⟨S55, rfl, c56, h52⟩
    refine ⟨_, rfl, ?_⟩
    replace C := C.ofc c56 (fun b hb => .inl hb)
    refine W.e (k47 _ _ (cw_block ?_))
    refine cw_iter h (fun s ρ w1 => ∃ S1, Cx (Blk v0) S w S1 w1 ∧ Has ρ [(0, v0), (1, .int .i64 a1), (2, .func (.func 91) #[] #[]), (6, .int .i64 s.2)] ∧ Ow api_Label.k 46 S1 base0 w1 v0 s.1) ⟨_, C, ⟨rfl, rfl, rfl, rfl, trivial⟩, h52⟩ ?_
    rintro ⟨x63, x64⟩ q57 ρ w59 ⟨S58, C, h62, h61⟩ h66 h65
    refine h62.cw fun ρ => ?_
    clear h62
    replace h66 : slices_stableCmpFunc_api_Label__label_Sort_1.b3 a1 x63 x64 = some q57 := h66
    unfold slices_stableCmpFunc_api_Label__label_Sort_1.b3 at h66
    refine cw_seq fun K67 k68 => ?_
    refine cw_seq fun K69 k70 => ?_
    refine cw_region (sv (mvv (.int .i64 x64) rfl) (sv (mvv (.int .i64 a1) rfl) (sv (rv_lss rfl rfl) (W.e (k70 _ _ ?_)))))
    rcases bif_some h66 with ⟨b71, h66⟩ | ⟨b71, h66⟩
    · refine cw_t rfl b71 (cw_skip (k68 _ _ (cw_block ?_)))
      refine cw_seq fun K72 k73 => ?_
      refine cw_region (sv (mvv (.int .i64 x64) rfl) ?_)
      obtain ⟨y74, h75, h66⟩ := pur_some h66
      refine sv (rv_mul rfl rfl h75) (sv (asv (.int .i64 0) rfl) (sv (asv (.int .i64 y74) rfl) (W.e (k73 _ _ ?_))))
      obtain ⟨o76, h79, h66⟩ := bnd_some h66
      refine cw_seq' (fun ρ w1 => ∃ S1, Cx (Blk v0) S w S1 w1 ∧ Has ρ [(0, v0), (1, .int .i64 a1), (2, .func (.func 91) #[] #[]), (6, .int .i64 x64), (7, .int .i64 o76.2)] ∧ Ow api_Label.k 46 S1 base0 w1 v0 o76.1) ?_ ?_
      · refine cw_block ?_
        refine cw_iter h79 (fun s ρ w1 => ∃ S1, Cx (Blk v0) S w S1 w1 ∧ Has ρ [(0, v0), (1, .int .i64 a1), (2, .func (.func 91) #[] #[]), (6, .int .i64 x64), (7, .int .i64 s.2.1), (8, .int .i64 s.2.2)] ∧ Ow api_Label.k 46 S1 base0 w1 v0 s.1) ⟨_, C, ⟨rfl, rfl, rfl, rfl, rfl, rfl, trivial⟩, h61⟩ ?_
        rintro ⟨x86, x87, x88⟩ q80 ρ w82 ⟨S81, C, h85, h84⟩ h90 h89
        refine h85.cw fun ρ => ?_
        clear h85
        replace h90 : slices_stableCmpFunc_api_Label__label_Sort_1.b5 a1 x64 x86 x87 x88 = some q80 := h90
        unfold slices_stableCmpFunc_api_Label__label_Sort_1.b5 at h90
        refine cw_seq fun K91 k92 => ?_
        refine cw_seq fun K93 k94 => ?_
        refine cw_region (sv (mvv (.int .i64 x88) rfl) (sv (mvv (.int .i64 a1) rfl) (sv (rv_leq rfl rfl) (W.e (k94 _ _ ?_)))))
        rcases bif_some h90 with ⟨b95, h90⟩ | ⟨b95, h90⟩
        · refine cw_t rfl b95 (cw_skip (k92 _ _ (cw_block ?_)))
          refine cw_seq fun K96 k97 => ?_
          refine cw_region (sv (mvv v0 rfl) (sv (mvv (.int .i64 x87) rfl) (sv (mvv (.int .i64 x87) rfl) (sv (mvv (.int .i64 x64) rfl) ?_))))
          obtain ⟨y98, h99, h90⟩ := pur_some h90
          refine sv (rv_add rfl rfl h99) (sv (mvv (.int .i64 x88) rfl) (sv (mvv (.func (.func 91) #[] #[]) rfl) ?_))
          obtain ⟨y100, h101, h90⟩ := bnd_some h90
          refine sc (dc_call (vs := [v0, .int .i64 x87, .int .i64 y98, .int .i64 x88, .func (.func 91) #[] #[]]) can138 rfl ?_)
          refine (slices_symMergeCmpFunc_api_Label__label_Sort_1_w 64 C.sb h84 h101).mono ?_
          rintro _ w102 ⟨S107, rfl, c108, h104⟩
          refine ⟨_, rfl, ?_⟩
          replace C := C.ofc c108 (fun b hb => .inl hb)
          refine W.e (k97 _ _ ?_)
          refine cw_seq fun K109 k110 => ?_
          refine cw_region (sv (mvv (.int .i64 x88) rfl) (sv (asv (.int .i64 x88) rfl) (W.e (k110 _ _ (cw_region (sv (mvv (.int .i64 x88) rfl) (sv (mvv (.int .i64 x64) rfl) ?_)))))))
          obtain ⟨y111, h112, h90⟩ := pur_some h90
          refine sv (rv_mul rfl rfl h112) ?_
          obtain ⟨y113, h114, h90⟩ := pur_some h90
          refine sv (rv_add rfl rfl h114) (sv (asv (.int .i64 y113) rfl) (W.e ?_))
          obtain rfl := osi h90
          exact ⟨_, rfl, ⟨_, C, ⟨rfl, rfl, rfl, rfl, rfl, rfl, trivial⟩, h104⟩⟩
        · refine cw_f rfl b95 (cw_exit ?_)
          obtain rfl := osi h90
          have h115 := congrArg some h89
          obtain rfl := osi h115
          exact ⟨_, C, ⟨rfl, rfl, rfl, rfl, rfl, trivial⟩, h84⟩
      · rintro ρ w117 ⟨S116, C, h120, h119⟩
        refine h120.cw fun ρ => ?_
        clear h120
        obtain ⟨o121, h124, h66⟩ := bnd_some h66
        refine cw_seq' (fun ρ w1 => ∃ S1, Cx (Blk v0) S w S1 w1 ∧ Has ρ [(0, v0), (1, .int .i64 a1), (2, .func (.func 91) #[] #[]), (6, .int .i64 x64)] ∧ Ow api_Label.k 46 S1 base0 w1 v0 o121) ?_ ?_
        · refine cw_seq fun K125 k126 => ?_
          refine cw_region (sv (mvv (.int .i64 o76.2) rfl) (sv (mvv (.int .i64 x64) rfl) ?_))
          obtain ⟨y127, h128, h124⟩ := pur_some h124
          refine sv (rv_add rfl rfl h128) (sv (asv (.int .i64 y127) rfl) (W.e (k126 _ _ ?_)))
          refine cw_seq fun K129 k130 => ?_
          refine cw_region (sv (mvv (.int .i64 y127) rfl) (sv (mvv (.int .i64 a1) rfl) (sv (rv_lss rfl rfl) (W.e (k130 _ _ ?_)))))
          rcases bif_some h124 with ⟨b131, h124⟩ | ⟨b131, h124⟩
          · refine cw_t rfl b131 (cw_region (sv (mvv v0 rfl) (sv (mvv (.int .i64 o76.2) rfl) (sv (mvv (.int .i64 y127) rfl) (sv (mvv (.int .i64 a1) rfl) (sv (mvv (.func (.func 91) #[] #[]) rfl) ?_))))))
            obtain ⟨y132, h133, h124⟩ := bnd_some h124
            refine sc (dc_call (vs := [v0, .int .i64 o76.2, .int .i64 y127, .int .i64 a1, .func (.func 91) #[] #[]]) can138 rfl ?_)
            refine (slices_symMergeCmpFunc_api_Label__label_Sort_1_w 64 C.sb h119 h133).mono ?_
            rintro _ w134 ⟨S139, rfl, c140, h136⟩
            refine ⟨_, rfl, ?_⟩
            replace C := C.ofc c140 (fun b hb => .inl hb)
            refine W.e ?_
            obtain rfl := osi h124
            exact ⟨_, C, ⟨rfl, rfl, rfl, rfl, trivial⟩, h136⟩
          · refine cw_f rfl b131 (cw_skip ?_)
            obtain rfl := osi h124
            exact ⟨_, C, ⟨rfl, rfl, rfl, rfl, trivial⟩, h119⟩
        · rintro ρ w142 ⟨S141, C, h145, h144⟩
          refine h145.cw fun ρ => ?_
          clear h145
          refine cw_region (sv (mvv (.int .i64 x64) rfl) ?_)
          obtain ⟨y146, h147, h66⟩ := pur_some h66
          refine sv (rv_mul rfl rfl h147) (sv (asv (.int .i64 y146) rfl) (W.e ?_))
          obtain rfl := osi h66
          exact ⟨_, rfl, ⟨_, C, ⟨rfl, rfl, rfl, rfl, trivial⟩, h144⟩⟩
    · refine cw_f rfl b71 (cw_exit ?_)
      obtain rfl := osi h66
      have h148 := congrArg some h65
      obtain rfl := osi h148
      exact ⟨_, rfl, _, rfl, C, h61⟩

noncomputable def slices_SortStableFunc_api_Label_api_Label__label_Sort_1 (a0 : List api_Label) : Option (List api_Label) :=
  ((slices_stableCmpFunc_api_Label__label_Sort_1 a0 (a0.length : Int)).bind fun y1 => some y1)
theorem slices_SortStableFunc_api_Label_api_Label__label_Sort_1_w {S : Nat → Prop} {w : World} {a0 : List api_Label} {v0 : Value} {base0 : Nat} {r : (List api_Label)} (hS : Sb S w) (h0 : Ow api_Label.k 46 S base0 w v0 a0) (h : slices_SortStableFunc_api_Label_api_Label__label_Sort_1 a0 = some r) :
    Calls Tryz.prog 90 (List.toArray [v0, .func (.func 91) #[] #[]]) w fun e w1 => ∃ S1, e = .returned (.tuple (List.toArray [])) ∧ Cx (Blk v0) S w S1 w1 ∧ Ow api_Label.k 46 S1 base0 w1 v0 r := by
  refine enter Tryz.func90 rfl (by kernel_rfl) rfl ?_
  have C := Cx.refl (F := (Blk v0)) hS
  unfold slices_SortStableFunc_api_Label_api_Label__label_Sort_1 at h
  refine cw_region (sv (mvv v0 rfl) (sv (mvv v0 rfl) (sv (rv_lenS el31 h0.sealed rfl) (sv (mvv (.func (.func 91) #[] #[]) rfl) ?_))))
  obtain ⟨y1, h2, h⟩ := bnd_some h
  refine sc (dc_call (vs := [v0, .int .i64 (a0.length : Int), .func (.func 91) #[] #[]]) can120 rfl ?_)
  refine (slices_stableCmpFunc_api_Label__label_Sort_1_w C.sb h0 h2).mono ?_
  rintro _ w3 ⟨S8, rfl, c9, h5⟩
  refine ⟨_, rfl, ?_⟩
  replace C := C.ofc c9 (fun b hb => .inl hb)
  refine W.e ?_
  obtain rfl := osi h
  exact ⟨_, rfl, _, rfl, C, h5⟩

noncomputable def label_within_string (a0 : ByteArray) (a1 : Int) : Option Bool :=
  ((bif (decide ((1 : Int) ≤ (a0.size : Int))) then some (decide ((a0.size : Int) ≤ a1)) else some false).bind fun o3 => some o3)
theorem label_within_string_w {S : Nat → Prop} {w : World} {a0 : ByteArray} {a1 : Int} {r : Bool} (hS : Sb S w)  (h : label_within_string a0 a1 = some r) :
    Calls Tryz.prog 88 (List.toArray [.string a0, .int .i64 a1]) w fun e w1 => ∃ S1, e = .returned (.bool r) ∧ Cx No S w S1 w1 := by
  refine enter Tryz.func88 rfl (by kernel_rfl) rfl ?_
  have C := Cx.refl (F := No) hS
  unfold label_within_string at h
  refine cw_seq fun K1 k2 => ?_
  refine cw_region (sv (asv (.bool false) rfl) (W.e (k2 _ _ ?_)))
  obtain ⟨o3, h6, h⟩ := bnd_some h
  refine cw_seq' (fun ρ w1 => ∃ S1, Cx No S w S1 w1 ∧ Has ρ [(4, .bool o3)]) ?_ ?_
  · refine cw_region (sv (mvv (.string a0) rfl) (sv (rv_slen Tryz.underlying9 rfl) (sv (rv_geq rfl rfl) (sv (mvv (.bool (decide ((1 : Int) ≤ (a0.size : Int)))) rfl) ?_))))
    rcases bif_some h6 with ⟨b7, h6⟩ | ⟨b7, h6⟩
    · refine W.v (gy rfl rfl rfl b7) (mvv (.string a0) rfl) (W.v (gy rfl rfl rfl b7) (rv_slen Tryz.underlying9 rfl) (W.v (gy rfl rfl rfl b7) (mvv (.int .i64 a1) rfl) (W.v (gy rfl rfl rfl b7) (rv_leq rfl rfl) (sv (ptk (.bool (decide ((a0.size : Int) ≤ a1))) rfl b7 rfl) (sv (asv (.bool (decide ((a0.size : Int) ≤ a1))) rfl) (W.e ?_))))))
      obtain rfl := osi h6
      exact ⟨_, C, ⟨rfl, trivial⟩⟩
    · refine W.n (gn rfl rfl rfl b7) (W.n (gn rfl rfl rfl b7) (W.n (gn rfl rfl rfl b7) (W.n (gn rfl rfl rfl b7) (sv (pfk (.bool false) rfl b7 rfl) (sv (asv (.bool false) rfl) (W.e ?_))))))
      obtain rfl := osi h6
      exact ⟨_, C, ⟨rfl, trivial⟩⟩
  · rintro ρ w9 ⟨S8, C, h10⟩
    refine h10.cw fun ρ => ?_
    clear h10
    refine cw_ret ?_
    obtain rfl := osi h
    exact ⟨_, rfl, _, rfl, C⟩

noncomputable def label_Name_1 (a0 : Int) : Option Bool :=
  ((bif (decide (a0 < (97 : Int))) then (bif (decide (a0 < (48 : Int))) then some (a0 != (95 : Int)) else (bif (decide ((57 : Int) < a0)) then some (a0 != (95 : Int)) else some false)) else (bif (decide ((122 : Int) < a0)) then (bif (decide (a0 < (48 : Int))) then some (a0 != (95 : Int)) else (bif (decide ((57 : Int) < a0)) then some (a0 != (95 : Int)) else some false)) else some false)).bind fun o3 => some o3)
theorem label_Name_1_w {S : Nat → Prop} {w : World} {a0 : Int} {r : Bool} (hS : Sb S w)  (h : label_Name_1 a0 = some r) :
    Calls Tryz.prog 119 (List.toArray [.int .i32 a0]) w fun e w1 => ∃ S1, e = .returned (.bool r) ∧ Cx No S w S1 w1 := by
  refine enter Tryz.func119 rfl (by kernel_rfl) rfl ?_
  have C := Cx.refl (F := No) hS
  unfold label_Name_1 at h
  refine cw_seq fun K1 k2 => ?_
  refine cw_region (sv (asv (.bool false) rfl) (W.e (k2 _ _ ?_)))
  obtain ⟨o3, h6, h⟩ := bnd_some h
  refine cw_seq' (fun ρ w1 => ∃ S1, Cx No S w S1 w1 ∧ Has ρ [(2, .bool o3)]) ?_ ?_
  · refine cw_region (sv (mvv (.int .i32 a0) rfl) (sv (rv_lss rfl rfl) (sv (mvv (.bool (decide (a0 < (97 : Int)))) rfl) ?_)))
    rcases bif_some h6 with ⟨b7, h6⟩ | ⟨b7, h6⟩
    · refine W.n (gn rfl rfl rfl b7) (W.n (gn rfl rfl rfl b7) (sv (ptk (.bool true) rfl b7 rfl) (sv (mvv (.bool true) rfl) (W.v (gy rfl rfl rfl rfl) (mvv (.int .i32 a0) rfl) (W.v (gy rfl rfl rfl rfl) (rv_lss rfl rfl) (W.v (gy rfl rfl rfl rfl) (mvv (.bool (decide (a0 < (48 : Int)))) rfl) ?_))))))
      rcases bif_some h6 with ⟨b8, h6⟩ | ⟨b8, h6⟩
      · refine W.n (gn rfl rfl rfl b8) (W.n (gn rfl rfl rfl b8) (W.v (gy rfl rfl rfl rfl) (ptk (.bool true) rfl b8 rfl) (sv (ptk (.bool true) rfl rfl rfl) (sv (mvv (.bool true) rfl) (W.v (gy rfl rfl rfl rfl) (mvv (.int .i32 a0) rfl) (W.v (gy rfl rfl rfl rfl) (rv_neq rfl rfl) (sv (ptk (.bool (a0 != (95 : Int))) rfl rfl rfl) (sv (asv (.bool (a0 != (95 : Int))) rfl) (W.e ?_)))))))))
        obtain rfl := osi h6
        exact ⟨_, C, ⟨rfl, trivial⟩⟩
      · refine W.v (gy rfl rfl rfl b8) (mvv (.int .i32 a0) rfl) (W.v (gy rfl rfl rfl b8) (rv_gtr rfl rfl) (W.v (gy rfl rfl rfl rfl) (pfk (.bool (decide ((57 : Int) < a0))) rfl b8 rfl) (sv (ptk (.bool (decide ((57 : Int) < a0))) rfl rfl rfl) (sv (mvv (.bool (decide ((57 : Int) < a0))) rfl) ?_))))
        rcases bif_some h6 with ⟨b9, h6⟩ | ⟨b9, h6⟩
        · refine W.v (gy rfl rfl rfl b9) (mvv (.int .i32 a0) rfl) (W.v (gy rfl rfl rfl b9) (rv_neq rfl rfl) (sv (ptk (.bool (a0 != (95 : Int))) rfl b9 rfl) (sv (asv (.bool (a0 != (95 : Int))) rfl) (W.e ?_))))
          obtain rfl := osi h6
          exact ⟨_, C, ⟨rfl, trivial⟩⟩
        · refine W.n (gn rfl rfl rfl b9) (W.n (gn rfl rfl rfl b9) (sv (pfk (.bool false) rfl b9 rfl) (sv (asv (.bool false) rfl) (W.e ?_))))
          obtain rfl := osi h6
          exact ⟨_, C, ⟨rfl, trivial⟩⟩
    · refine W.v (gy rfl rfl rfl b7) (mvv (.int .i32 a0) rfl) (W.v (gy rfl rfl rfl b7) (rv_gtr rfl rfl) (sv (pfk (.bool (decide ((122 : Int) < a0))) rfl b7 rfl) (sv (mvv (.bool (decide ((122 : Int) < a0))) rfl) ?_)))
      rcases bif_some h6 with ⟨b10, h6⟩ | ⟨b10, h6⟩
      · refine W.v (gy rfl rfl rfl b10) (mvv (.int .i32 a0) rfl) (W.v (gy rfl rfl rfl b10) (rv_lss rfl rfl) (W.v (gy rfl rfl rfl b10) (mvv (.bool (decide (a0 < (48 : Int)))) rfl) ?_))
        rcases bif_some h6 with ⟨b11, h6⟩ | ⟨b11, h6⟩
        · refine W.n (gn rfl rfl rfl b11) (W.n (gn rfl rfl rfl b11) (W.v (gy rfl rfl rfl b10) (ptk (.bool true) rfl b11 rfl) (sv (ptk (.bool true) rfl b10 rfl) (sv (mvv (.bool true) rfl) (W.v (gy rfl rfl rfl rfl) (mvv (.int .i32 a0) rfl) (W.v (gy rfl rfl rfl rfl) (rv_neq rfl rfl) (sv (ptk (.bool (a0 != (95 : Int))) rfl rfl rfl) (sv (asv (.bool (a0 != (95 : Int))) rfl) (W.e ?_)))))))))
          obtain rfl := osi h6
          exact ⟨_, C, ⟨rfl, trivial⟩⟩
        · refine W.v (gy rfl rfl rfl b11) (mvv (.int .i32 a0) rfl) (W.v (gy rfl rfl rfl b11) (rv_gtr rfl rfl) (W.v (gy rfl rfl rfl b10) (pfk (.bool (decide ((57 : Int) < a0))) rfl b11 rfl) (sv (ptk (.bool (decide ((57 : Int) < a0))) rfl b10 rfl) (sv (mvv (.bool (decide ((57 : Int) < a0))) rfl) ?_))))
          rcases bif_some h6 with ⟨b12, h6⟩ | ⟨b12, h6⟩
          · refine W.v (gy rfl rfl rfl b12) (mvv (.int .i32 a0) rfl) (W.v (gy rfl rfl rfl b12) (rv_neq rfl rfl) (sv (ptk (.bool (a0 != (95 : Int))) rfl b12 rfl) (sv (asv (.bool (a0 != (95 : Int))) rfl) (W.e ?_))))
            obtain rfl := osi h6
            exact ⟨_, C, ⟨rfl, trivial⟩⟩
          · refine W.n (gn rfl rfl rfl b12) (W.n (gn rfl rfl rfl b12) (sv (pfk (.bool false) rfl b12 rfl) (sv (asv (.bool false) rfl) (W.e ?_))))
            obtain rfl := osi h6
            exact ⟨_, C, ⟨rfl, trivial⟩⟩
      · refine W.n (gn rfl rfl rfl b10) (W.n (gn rfl rfl rfl b10) (W.n (gn rfl rfl rfl b10) (W.n (gu rfl rfl rfl) (W.n (gu rfl rfl rfl) (W.n (gn rfl rfl rfl b10) (sv (pfk (.bool false) rfl b10 rfl) (sv (mvv (.bool false) rfl) (W.n (gn rfl rfl rfl rfl) (W.n (gn rfl rfl rfl rfl) (sv (pfk (.bool false) rfl rfl rfl) (sv (asv (.bool false) rfl) ?_)))))))))))
        refine W.e ?_
        obtain rfl := osi h6
        exact ⟨_, C, ⟨rfl, trivial⟩⟩
  · rintro ρ w14 ⟨S13, C, h15⟩
    refine h15.cw fun ρ => ?_
    clear h15
    refine cw_ret ?_
    obtain rfl := osi h
    exact ⟨_, rfl, _, rfl, C⟩

noncomputable def strings_indexFunc__label_Name_1 (a0 : ByteArray) (a2 : Bool) : Option Int := sidx_ label_Name_1 a0 a2
theorem strings_indexFunc__label_Name_1_w {S : Nat → Prop} {w : World} {a0 : ByteArray} {a2 : Bool} {r : Int} (hS : Sb S w) (h : strings_indexFunc__label_Name_1 a0 a2 = some r) :
    Calls Tryz.prog 141 (List.toArray [.string a0, .func (.func 119) #[] #[], .bool a2]) w fun e w1 => ∃ S1, e = .returned (.int .i64 r) ∧ Cx No S w S1 w1 := by
  refine enter Tryz.func141 rfl (by kernel_rfl) rfl ?_
  have C := Cx.refl (F := No) hS
  unfold strings_indexFunc__label_Name_1 sidx_ at h
  refine cw_seq fun K0 k0 => ?_
  refine cw_region (sv (asv (.int .i64 0) rfl) (W.e (k0 _ _ ?_)))
  refine cw_seq' (fun ρ w2 => ∃ S2, r = -1 ∧ Cx No S w S2 w2) ?_ ?_
  · refine cw_seq fun K1 k1 => ?_
    refine cw_region (sv (mvv (.string a0) rfl) (sc (dc_srange Tryz.underlying9 rfl fun rb w1 hb hI up => ?_)))
    replace C := C.new up
    have hrS : ¬ S rb := fun hs => by have := hS rb hs; omega
    have hrw : w.heap.size ≤ rb := hb
    refine W.e (k1 _ _ ?_)
    refine cw_block (cw_loop (fun n ρ w2 => ∃ S2 pos, Cx No S w S2 w2 ∧ Has ρ [(1, .func (.func 119) #[] #[]), (2, .bool a2), (10, .pointer (some ⟨rb, 0, none⟩))] ∧ SIt w2 rb a0 pos ∧ ¬ S2 rb ∧ sidxF label_Name_1 a0 a2 n pos = some r) _ ⟨S, 0, C, ⟨rfl, rfl, rfl, trivial⟩, hI, hrS, h⟩ ?_)
    clear C hI h
    rintro n ρ w2 ⟨S2, pos, C, hh, hI, hrS2, h⟩
    refine hh.cw fun ρ => ?_
    clear hh
    refine cw_seq fun K2 k2 => ?_
    refine cw_region (sc (dc_snext hI rfl ?_ ?_))
    · intro hp
      refine sv (rv_extract rfl rfl) (W.e (k2 _ _ (cw_seq fun K3 k3 => cw_f rfl rfl (cw_exit ?_))))
      refine ⟨S2, ?_, C⟩
      cases n <;> (unfold sidxF at h; rw [if_neg hp] at h; exact (osi h).symm)
    · intro w3 hp hI3 up3
      refine sv (rv_extract rfl rfl) (W.e (k2 _ _ (cw_seq fun K3 k3 => cw_t rfl rfl (cw_skip (k3 _ _ ?_)))))
      cases n with
      | zero => unfold sidxF at h; rw [if_pos hp] at h; cases h
      | succ n =>
        unfold sidxF at h
        rw [if_pos hp] at h
        obtain ⟨b, hb2, h⟩ := bnd_some h
        replace C := C.ofp up3 (fun q hq => .inr (by have hq : q = rb := hq; omega))
        refine cw_block (cw_seq fun K4 k4 => cw_region (sv (rv_extract rfl rfl) (sv (rv_extract rfl rfl) (sv (asv (.int .i64 (pos : Nat)) rfl) (sv (asv (.int .i32 ((Utf8.decode a0 pos).1 : Nat)) rfl) (W.e (k4 _ _ ?_)))))))
        refine cw_seq fun K5 k5 => cw_region (sv (mvv (.func (.func 119) #[] #[]) rfl) (sv (mvv (.int .i32 ((Utf8.decode a0 pos).1 : Nat)) rfl) (sc (dc_callV rfl (vs := [.int .i32 ((Utf8.decode a0 pos).1 : Nat)]) can119 rfl ?_))))
        refine (label_Name_1_w C.sb hb2).mono ?_
        rintro _ w4 ⟨S3, rfl, c4⟩
        refine ⟨_, rfl, sv (mvv (.bool a2) rfl) (sv (rv_beql Tryz.underlying4 rfl rfl) (W.e (k5 _ _ ?_)))⟩
        have hI4 := hI3.to (c4.up.block rb hI3.lt fun h => h)
        have hrS3 : ¬ S3 rb := fun hs => (c4.ge.ge rb hs).elim hrS2 fun hl => by have := hI3.lt; omega
        replace C := C.trans c4
        cases hba : (b == a2) with
        | true =>
          rw [hba] at h
          refine cw_t rfl rfl ?_
          refine cw_seq fun K6 k6 => cw_region (sv (mvv (.int .i64 (pos : Nat)) rfl) (sv (asv (.int .i64 (pos : Nat)) rfl) (W.e (k6 _ _ (cw_ret ?_)))))
          obtain rfl := osi h
          exact ⟨_, rfl, S3, rfl, C⟩
        | false =>
          rw [hba] at h
          refine cw_f rfl rfl (cw_skip ?_)
          exact ⟨_, Nat.lt_succ_self _, S3, _, C, ⟨rfl, rfl, rfl, trivial⟩, hI4, hrS3, h⟩
  · rintro ρ w2 ⟨S2, rfl, C⟩
    refine cw_seq fun K1 k1 => ?_
    refine cw_region (sv (asv (.int .i64 (-1)) rfl) (W.e (k1 _ _ (cw_ret ?_))))
    exact ⟨_, rfl, S2, rfl, C⟩

noncomputable def strings_IndexFunc__label_Name_1 (a0 : ByteArray) : Option Int :=
  ((strings_indexFunc__label_Name_1 a0 true).bind fun y5 => some y5)
theorem strings_IndexFunc__label_Name_1_w {S : Nat → Prop} {w : World} {a0 : ByteArray} {r : Int} (hS : Sb S w)  (h : strings_IndexFunc__label_Name_1 a0 = some r) :
    Calls Tryz.prog 136 (List.toArray [.string a0, .func (.func 119) #[] #[]]) w fun e w1 => ∃ S1, e = .returned (.int .i64 r) ∧ Cx No S w S1 w1 := by
  refine enter Tryz.func136 rfl (by kernel_rfl) rfl ?_
  have C := Cx.refl (F := No) hS
  unfold strings_IndexFunc__label_Name_1 at h
  refine cw_seq fun K1 k2 => ?_
  refine cw_region (sv (asv (.int .i64 0) rfl) (W.e (k2 _ _ ?_)))
  refine cw_seq fun K3 k4 => ?_
  refine cw_region (sv (mvv (.string a0) rfl) (sv (mvv (.func (.func 119) #[] #[]) rfl) ?_))
  obtain ⟨y5, h6, h⟩ := bnd_some h
  refine sc (dc_call (vs := [.string a0, .func (.func 119) #[] #[], .bool true]) can141 rfl ?_)
  refine (strings_indexFunc__label_Name_1_w C.sb  h6).mono ?_
  rintro _ w7 ⟨S8, rfl, c9⟩
  refine ⟨_, rfl, ?_⟩
  replace C := C.trans c9
  refine sv (asv (.int .i64 y5) rfl) (W.e (k4 _ _ (cw_ret ?_)))
  obtain rfl := osi h
  exact ⟨_, rfl, _, rfl, C⟩

noncomputable def strings_ContainsFunc__label_Name_1 (a0 : ByteArray) : Option Bool :=
  ((strings_IndexFunc__label_Name_1 a0).bind fun y5 => some (decide ((0 : Int) ≤ y5)))
theorem strings_ContainsFunc__label_Name_1_w {S : Nat → Prop} {w : World} {a0 : ByteArray} {r : Bool} (hS : Sb S w)  (h : strings_ContainsFunc__label_Name_1 a0 = some r) :
    Calls Tryz.prog 118 (List.toArray [.string a0, .func (.func 119) #[] #[]]) w fun e w1 => ∃ S1, e = .returned (.bool r) ∧ Cx No S w S1 w1 := by
  refine enter Tryz.func118 rfl (by kernel_rfl) rfl ?_
  have C := Cx.refl (F := No) hS
  unfold strings_ContainsFunc__label_Name_1 at h
  refine cw_seq fun K1 k2 => ?_
  refine cw_region (sv (asv (.bool false) rfl) (W.e (k2 _ _ ?_)))
  refine cw_seq fun K3 k4 => ?_
  refine cw_region (sv (mvv (.string a0) rfl) (sv (mvv (.func (.func 119) #[] #[]) rfl) ?_))
  obtain ⟨y5, h6, h⟩ := bnd_some h
  refine sc (dc_call (vs := [.string a0, .func (.func 119) #[] #[]]) can136 rfl ?_)
  refine (strings_IndexFunc__label_Name_1_w C.sb  h6).mono ?_
  rintro _ w7 ⟨S8, rfl, c9⟩
  refine ⟨_, rfl, ?_⟩
  replace C := C.trans c9
  refine sv (rv_geq rfl rfl) (sv (asv (.bool (decide ((0 : Int) ≤ y5))) rfl) (W.e (k4 _ _ (cw_ret ?_))))
  obtain rfl := osi h
  exact ⟨_, rfl, _, rfl, C⟩

noncomputable def label_Name (a0 : ByteArray) : Option Bool :=
  ((((label_within_string a0 (16 : Int)).bind fun y11 => (bif (!y11) then some true else ((sat_ a0 (0 : Int)).bind fun y17 => (bif (decide (y17 < (97 : Int))) then some true else ((sat_ a0 (0 : Int)).bind fun y20 => some (decide ((122 : Int) < y20))))))).bind fun o7 => (bif o7 then some (.inr false) else some (.inl ()))).bind (Sum.elim (fun o3n => ((strings_ContainsFunc__label_Name_1 a0).bind fun y33 => some (!y33))) (fun q => some q)))
theorem label_Name_w {S : Nat → Prop} {w : World} {a0 : ByteArray} {r : Bool} (hS : Sb S w)  (h : label_Name a0 = some r) :
    Calls Tryz.prog 87 (List.toArray [.string a0]) w fun e w1 => ∃ S1, e = .returned (.bool r) ∧ Cx No S w S1 w1 := by
  refine enter Tryz.func87 rfl (by kernel_rfl) rfl ?_
  have C := Cx.refl (F := No) hS
  unfold label_Name at h
  refine cw_seq fun K1 k2 => ?_
  refine cw_region (sv (asv (.bool false) rfl) (W.e (k2 _ _ ?_)))
  obtain ⟨o3, h6, h⟩ := bnds_some h
  refine cw_seq' (fun ρ w1 => ∃ o3n, o3 = (.inl o3n) ∧ ∃ S1, Cx No S w S1 w1 ∧ Has ρ [(0, .string a0)]) ?_ ?_
  · obtain ⟨o7, h10, h6⟩ := bnd_some h6
    refine cw_seq' (fun ρ w1 => ∃ S1, Cx No S w S1 w1 ∧ Has ρ [(0, .string a0), (15, .bool o7)]) ?_ ?_
    · refine cw_region (sv (mvv (.string a0) rfl) ?_)
      obtain ⟨y11, h12, h10⟩ := bnd_some h10
      refine sc (dc_call (vs := [.string a0, .int .i64 16]) can88 rfl ?_)
      refine (label_within_string_w C.sb  h12).mono ?_
      rintro _ w13 ⟨S14, rfl, c15⟩
      refine ⟨_, rfl, ?_⟩
      replace C := C.trans c15
      refine sv (rv_not rfl) (sv (mvv (.bool (!y11)) rfl) ?_)
      rcases bif_some h10 with ⟨b16, h10⟩ | ⟨b16, h10⟩
      · refine W.n (gn rfl rfl rfl b16) (W.n (gn rfl rfl rfl b16) (W.n (gn rfl rfl rfl b16) (sv (ptk (.bool true) rfl b16 rfl) (sv (mvv (.bool true) rfl) (W.n (gn rfl rfl rfl rfl) (W.n (gn rfl rfl rfl rfl) (W.n (gn rfl rfl rfl rfl) (sv (ptk (.bool true) rfl rfl rfl) (W.e ?_)))))))))
        obtain rfl := osi h10
        exact ⟨_, C, ⟨rfl, rfl, trivial⟩⟩
      · refine W.v (gy rfl rfl rfl b16) (mvv (.string a0) rfl) ?_
        obtain ⟨y17, h18, h10⟩ := bnd_some h10
        refine W.v (gy rfl rfl rfl b16) (rv_sindex Tryz.underlying9 rfl rfl h18) (W.v (gy rfl rfl rfl b16) (rv_lss rfl rfl) (sv (pfk (.bool (decide (y17 < (97 : Int)))) rfl b16 rfl) (sv (mvv (.bool (decide (y17 < (97 : Int)))) rfl) ?_)))
        rcases bif_some h10 with ⟨b19, h10⟩ | ⟨b19, h10⟩
        · refine W.n (gn rfl rfl rfl b19) (W.n (gn rfl rfl rfl b19) (W.n (gn rfl rfl rfl b19) (sv (ptk (.bool true) rfl b19 rfl) (W.e ?_))))
          obtain rfl := osi h10
          exact ⟨_, C, ⟨rfl, rfl, trivial⟩⟩
        · refine W.v (gy rfl rfl rfl b19) (mvv (.string a0) rfl) ?_
          obtain ⟨y20, h21, h10⟩ := bnd_some h10
          refine W.v (gy rfl rfl rfl b19) (rv_sindex Tryz.underlying9 rfl rfl h21) (W.v (gy rfl rfl rfl b19) (rv_gtr rfl rfl) (sv (pfk (.bool (decide ((122 : Int) < y20))) rfl b19 rfl) (W.e ?_)))
          obtain rfl := osi h10
          exact ⟨_, C, ⟨rfl, rfl, trivial⟩⟩
    · rintro ρ w23 ⟨S22, C, h24⟩
      refine h24.cw fun ρ => ?_
      clear h24
      rcases bif_some h6 with ⟨b25, h6⟩ | ⟨b25, h6⟩
      · refine cw_t rfl b25 ?_
        refine cw_seq fun K26 k27 => ?_
        refine cw_region (sv (asv (.bool false) rfl) (W.e (k27 _ _ (cw_ret ?_))))
        obtain rfl := osi h6
        replace h := h.2 _ rfl
        obtain rfl := osi h
        exact ⟨_, rfl, _, rfl, C⟩
      · refine cw_f rfl b25 (cw_skip ?_)
        obtain rfl := osi h6
        exact ⟨_, rfl, ⟨_, C, ⟨rfl, trivial⟩⟩⟩
  · rintro ρ w29 ⟨o3n, rfl, ⟨S28, C, h30⟩⟩
    replace h := h.1 _ rfl
    refine h30.cw fun ρ => ?_
    clear h30
    refine cw_seq fun K31 k32 => ?_
    refine cw_region (sv (mvv (.string a0) rfl) ?_)
    obtain ⟨y33, h34, h⟩ := bnd_some h
    refine sc (dc_call (vs := [.string a0, .func (.func 119) #[] #[]]) can118 rfl ?_)
    refine (strings_ContainsFunc__label_Name_1_w C.sb  h34).mono ?_
    rintro _ w35 ⟨S36, rfl, c37⟩
    refine ⟨_, rfl, ?_⟩
    replace C := C.trans c37
    refine sv (rv_not rfl) (sv (asv (.bool (!y33)) rfl) (W.e (k32 _ _ (cw_ret ?_))))
    obtain rfl := osi h
    exact ⟨_, rfl, _, rfl, C⟩

noncomputable def label_within_api_Label (a0 : List api_Label) (a1 : Int) : Option Bool :=
  ((bif (decide ((1 : Int) ≤ (a0.length : Int))) then some (decide ((a0.length : Int) ≤ a1)) else some false).bind fun o3 => some o3)
theorem label_within_api_Label_w {S : Nat → Prop} {w : World} {a0 : List api_Label} {a1 : Int} {v0 : Value} {r : Bool} (hS : Sb S w) (h0 : Sl (kSl api_Label.k) S w v0 a0) (h : label_within_api_Label a0 a1 = some r) :
    Calls Tryz.prog 89 (List.toArray [v0, .int .i64 a1]) w fun e w1 => ∃ S1, e = .returned (.bool r) ∧ Cx No S w S1 w1 := by
  refine enter Tryz.func89 rfl (by kernel_rfl) rfl ?_
  have C := Cx.refl (F := No) hS
  unfold label_within_api_Label at h
  refine cw_seq fun K1 k2 => ?_
  refine cw_region (sv (asv (.bool false) rfl) (W.e (k2 _ _ ?_)))
  obtain ⟨o3, h6, h⟩ := bnd_some h
  refine cw_seq' (fun ρ w1 => ∃ S1, Cx No S w S1 w1 ∧ Has ρ [(4, .bool o3)]) ?_ ?_
  · refine cw_region (sv (mvv v0 rfl) (sv (rv_lenS el31 h0 rfl) (sv (rv_geq rfl rfl) (sv (mvv (.bool (decide ((1 : Int) ≤ (a0.length : Int)))) rfl) ?_))))
    rcases bif_some h6 with ⟨b7, h6⟩ | ⟨b7, h6⟩
    · refine W.v (gy rfl rfl rfl b7) (mvv v0 rfl) (W.v (gy rfl rfl rfl b7) (rv_lenS el31 h0 rfl) (W.v (gy rfl rfl rfl b7) (mvv (.int .i64 a1) rfl) (W.v (gy rfl rfl rfl b7) (rv_leq rfl rfl) (sv (ptk (.bool (decide ((a0.length : Int) ≤ a1))) rfl b7 rfl) (sv (asv (.bool (decide ((a0.length : Int) ≤ a1))) rfl) (W.e ?_))))))
      obtain rfl := osi h6
      exact ⟨_, C, ⟨rfl, trivial⟩⟩
    · refine W.n (gn rfl rfl rfl b7) (W.n (gn rfl rfl rfl b7) (W.n (gn rfl rfl rfl b7) (W.n (gn rfl rfl rfl b7) (sv (pfk (.bool false) rfl b7 rfl) (sv (asv (.bool false) rfl) (W.e ?_))))))
      obtain rfl := osi h6
      exact ⟨_, C, ⟨rfl, trivial⟩⟩
  · rintro ρ w9 ⟨S8, C, h10⟩
    refine h10.cw fun ρ => ?_
    clear h10
    refine cw_ret ?_
    obtain rfl := osi h
    exact ⟨_, rfl, _, rfl, C⟩

noncomputable def label_Right.b2 (a0 : List api_Label) (x15 : ByteArray) (x16 : Int) : Option ((ByteArray × Int) ⊕ ((Unit) ⊕ (Bool))) :=
  (bif (decide (x16 < (a0.length : Int))) then (((at_ a0 x16).bind fun y30 => (pur y30 fun y40 => ((((label_Name y40.Name).bind fun y57 => (bif (!y57) then some true else ((label_within_string y40.Val (64 : Int)).bind fun y66 => (bif (!y66) then some true else some (strLt y40.Name x15 || strEq y40.Name x15))))).bind fun o50 => (bif o50 then some (.inr (.inr (.inr (.inr false)))) else some (.inl ()))).bind (Sum.elim (fun o46n => some (.inl y40.Name)) (fun q => some q))))).bind (Sum.elim (fun o24n => (pur (IntKind.i64.wrap (x16 + (1 : Int))) fun y91 => some (.inl (o24n, y91)))) (fun q => some q))) else some (.inr (.inl ())))
noncomputable def label_Right (a0 : List api_Label) : Option Bool :=
  ((iter (fun s : ByteArray × Int => label_Right.b2 a0 s.1 s.2) (ByteArray.empty, (0 : Int))).bind (Sum.elim (fun o5n => ((label_within_api_Label a0 (6 : Int)).bind fun y99 => some y99)) (fun q => some q)))
theorem label_Right_w {S : Nat → Prop} {w : World} {a0 : List api_Label} {v0 : Value} {r : Bool} (hS : Sb S w) (h0 : Sl (kSl api_Label.k) S w v0 a0) (h : label_Right a0 = some r) :
    Calls Tryz.prog 62 (List.toArray [v0]) w fun e w1 => ∃ S1, e = .returned (.bool r) ∧ Cx No S w S1 w1 := by
  refine enter Tryz.func62 rfl (by kernel_rfl) rfl ?_
  have C := Cx.refl (F := No) hS
  unfold label_Right at h
  refine cw_seq fun K1 k2 => ?_
  refine cw_region (sv (asv (.bool false) rfl) (W.e (k2 _ _ ?_)))
  refine cw_seq fun K3 k4 => ?_
  refine cw_region (sv (asv (.string ByteArray.empty) rfl) (W.e (k4 _ _ ?_)))
  obtain ⟨o5, h8, h⟩ := bnds_some h
  refine cw_seq' (fun ρ w1 => ∃ o5n, o5 = (.inl o5n) ∧ ∃ S1, Cx No S w S1 w1 ∧ Has ρ [(0, v0)] ∧ Sl (kSl api_Label.k) S1 w1 v0 a0) ?_ ?_
  · refine cw_seq fun K9 k10 => ?_
    refine cw_region (sv (mvv v0 rfl) (sv (rv_lenS el31 h0 rfl) (sv (mvv (.int .i64 0) rfl) (W.e (k10 _ _ (cw_block ?_))))))
    refine cw_iter h8 (fun s ρ w1 => ∃ S1, Cx No S w S1 w1 ∧ Has ρ [(0, v0), (3, .string s.1), (6, v0), (7, .int .i64 (a0.length : Int)), (8, .int .i64 s.2)] ∧ Sl (kSl api_Label.k) S1 w1 v0 a0) ⟨_, C, ⟨rfl, rfl, rfl, rfl, rfl, trivial⟩, h0⟩ ?_
    rintro ⟨x15, x16⟩ q11 ρ w13 ⟨S12, C, h14, h0⟩ h18 h17
    refine h14.cw fun ρ => ?_
    clear h14
    replace h18 : label_Right.b2 a0 x15 x16 = some q11 := h18
    unfold label_Right.b2 at h18
    refine cw_seq fun K19 k20 => ?_
    refine cw_region (sv (rv_lss rfl rfl) (W.e (k20 _ _ ?_)))
    refine cw_seq fun K21 k22 => ?_
    rcases bif_some h18 with ⟨b23, h18⟩ | ⟨b23, h18⟩
    · refine cw_t rfl b23 (cw_skip (k22 _ _ ?_))
      obtain ⟨o24, h27, h18⟩ := bnds_some h18
      refine cw_seq' (fun ρ w1 => ∃ o24n, o24 = (.inl o24n) ∧ ∃ S1, Cx No S w S1 w1 ∧ Has ρ [(0, v0), (3, .string o24n), (6, v0), (7, .int .i64 (a0.length : Int)), (8, .int .i64 x16)] ∧ Sl (kSl api_Label.k) S1 w1 v0 a0) ?_ ?_
      · refine cw_block ?_
        refine cw_seq fun K28 k29 => ?_
        refine cw_region ?_
        obtain ⟨y30, h31, h27⟩ := bnd_some h27
        refine sv (rv_index el31 h0 rfl rfl h31) ?_
        obtain ⟨v32, h33, h34⟩ := rw_loadA (P := Tryz.prog) el31 h0 h31
        obtain rfl := api_Label.o.1 h33
        refine sr (h34 _ (Sm.refl _ _) rfl) ?_
        refine sc (dc_allocO (x0 := (api_Label.mk ByteArray.empty ByteArray.empty)) (base := w.heap.size) el31 zr46 (fun _ => api_Label.r.2 rfl) C.up.size C.sb fun b35 w36 h37 h38 u39 => ?_)
        replace h0 := h0.nw u39
        replace C := C.new u39
        obtain ⟨y40, h41, h27⟩ := pur_some h27
        have h45 := h37
        refine sc (dc_storeO el31 h45 (show at_ [(api_Label.mk ByteArray.empty ByteArray.empty)] (0 : Int) = some (api_Label.mk ByteArray.empty ByteArray.empty) from rfl) rfl rfl (((api_Label.o (x := y30)).2 rfl)) fun w42 h43 u44 => ?_)
        replace h43 : Ow api_Label.k 46 S12 w.heap.size w42 (.slice (some ⟨b35, 0, none⟩) 1 1) [y30] := h43
        rw [h41] at h43
        replace h0 := h0.wr u44 h45.not
        replace C := C.ow h45 u44
        refine W.e (k29 _ _ ?_)
        obtain ⟨o46, h49, h27⟩ := bnds_some h27
        refine cw_seq' (fun ρ w1 => ∃ o46n, o46 = (.inl o46n) ∧ ∃ S1, Cx No S w S1 w1 ∧ Has ρ [(0, v0), (5, .pointer (some ⟨b35, 0, none⟩)), (6, v0), (7, .int .i64 (a0.length : Int)), (8, .int .i64 x16)] ∧ Sl (kSl api_Label.k) S1 w1 v0 a0 ∧ Ow api_Label.k 46 S1 w.heap.size w1 (.slice (some ⟨b35, 0, none⟩) 1 1) ([y40])) ?_ ?_
        · obtain ⟨o50, h53, h49⟩ := bnd_some h49
          refine cw_seq' (fun ρ w1 => ∃ S1, Cx No S w S1 w1 ∧ Has ρ [(0, v0), (5, .pointer (some ⟨b35, 0, none⟩)), (6, v0), (7, .int .i64 (a0.length : Int)), (8, .int .i64 x16), (27, .bool o50)] ∧ Sl (kSl api_Label.k) S1 w1 v0 a0 ∧ Ow api_Label.k 46 S1 w.heap.size w1 (.slice (some ⟨b35, 0, none⟩) 1 1) ([y40])) ?_ ?_
          · refine cw_region (sv (rv_fieldAddr st46 rfl rfl) ?_)
            obtain ⟨cs54, h55, h56⟩ := Ow.cellsO h43 (show at_ [y40] (0 : Int) = some y40 from rfl)
            obtain rfl := api_Label.r.1 h55
            refine sr (rw_el1 (off := 0) ag9 (h56 _ (Sm.refl _ _)) rfl rfl) ?_
            obtain ⟨y57, h58, h53⟩ := bnd_some h53
            refine sc (dc_call (vs := [.string y40.Name]) can87 rfl ?_)
            refine (label_Name_w C.sb  h58).mono ?_
            rintro _ w59 ⟨S60, rfl, c61⟩
            refine ⟨_, rfl, ?_⟩
            replace h0 := h0.cx c61
            replace h43 := h43.cx c61
            replace C := C.trans c61
            refine sv (rv_not rfl) (sv (mvv (.bool (!y57)) rfl) ?_)
            rcases bif_some h53 with ⟨b62, h53⟩ | ⟨b62, h53⟩
            · refine W.n (gn rfl rfl rfl b62) (W.n (gn rfl rfl rfl b62) (W.n (gn rfl rfl rfl b62) (W.n (gn rfl rfl rfl b62) (sv (ptk (.bool true) rfl b62 rfl) (sv (mvv (.bool true) rfl) (W.n (gn rfl rfl rfl rfl) (W.n (gn rfl rfl rfl rfl) (W.n (gn rfl rfl rfl rfl) (W.n (gn rfl rfl rfl rfl) (sv (ptk (.bool true) rfl rfl rfl) (W.e ?_)))))))))))
              obtain rfl := osi h53
              exact ⟨_, C, ⟨rfl, rfl, rfl, rfl, rfl, rfl, trivial⟩, h0, h43⟩
            · refine W.v (gy rfl rfl rfl b62) (rv_fieldAddr st46 rfl rfl) ?_
              obtain ⟨cs63, h64, h65⟩ := Ow.cellsO h43 (show at_ [y40] (0 : Int) = some y40 from rfl)
              obtain rfl := api_Label.r.1 h64
              refine W.r (gy rfl rfl rfl b62) (rw_el1 (off := 1) ag9 (h65 _ (Sm.refl _ _)) rfl rfl) ?_
              obtain ⟨y66, h67, h53⟩ := bnd_some h53
              refine W.c (gy rfl rfl rfl b62) (dc_call (vs := [.string y40.Val, .int .i64 64]) can88 rfl ?_)
              refine (label_within_string_w C.sb  h67).mono ?_
              rintro _ w68 ⟨S69, rfl, c70⟩
              refine ⟨_, rfl, ?_⟩
              replace h0 := h0.cx c70
              replace h43 := h43.cx c70
              replace C := C.trans c70
              refine W.v (gy rfl rfl rfl b62) (rv_not rfl) (sv (pfk (.bool (!y66)) rfl b62 rfl) (sv (mvv (.bool (!y66)) rfl) ?_))
              rcases bif_some h53 with ⟨b71, h53⟩ | ⟨b71, h53⟩
              · refine W.n (gn rfl rfl rfl b71) (W.n (gn rfl rfl rfl b71) (W.n (gn rfl rfl rfl b71) (W.n (gn rfl rfl rfl b71) (sv (ptk (.bool true) rfl b71 rfl) (W.e ?_)))))
                obtain rfl := osi h53
                exact ⟨_, C, ⟨rfl, rfl, rfl, rfl, rfl, rfl, trivial⟩, h0, h43⟩
              · refine W.v (gy rfl rfl rfl b71) (rv_fieldAddr st46 rfl rfl) ?_
                obtain ⟨cs72, h73, h74⟩ := Ow.cellsO h43 (show at_ [y40] (0 : Int) = some y40 from rfl)
                obtain rfl := api_Label.r.1 h73
                refine W.r (gy rfl rfl rfl b71) (rw_el1 (off := 0) ag9 (h74 _ (Sm.refl _ _)) rfl rfl) (W.v (gy rfl rfl rfl b71) (mvv (.string x15) rfl) (W.v (gy rfl rfl rfl b71) (rv_sleq rfl rfl) (sv (pfk (.bool (strLt y40.Name x15 || strEq y40.Name x15)) rfl b71 rfl) (W.e ?_))))
                obtain rfl := osi h53
                exact ⟨_, C, ⟨rfl, rfl, rfl, rfl, rfl, rfl, trivial⟩, h0, h43⟩
          · rintro ρ w76 ⟨S75, C, h77, h0, h43⟩
            refine h77.cw fun ρ => ?_
            clear h77
            rcases bif_some h49 with ⟨b78, h49⟩ | ⟨b78, h49⟩
            · refine cw_t rfl b78 ?_
              refine cw_seq fun K79 k80 => ?_
              refine cw_region (sv (asv (.bool false) rfl) (W.e (k80 _ _ (cw_ret ?_))))
              obtain rfl := osi h49
              replace h27 := h27.2 _ rfl
              obtain rfl := osi h27
              replace h18 := h18.2 _ rfl
              obtain rfl := osi h18
              have h81 := congrArg some h17
              obtain rfl := osi h81
              replace h := h.2 _ rfl
              obtain rfl := osi h
              exact ⟨_, rfl, _, rfl, C⟩
            · refine cw_f rfl b78 (cw_skip ?_)
              obtain rfl := osi h49
              exact ⟨_, rfl, ⟨_, C, ⟨rfl, rfl, rfl, rfl, rfl, trivial⟩, h0, h43⟩⟩
        · rintro ρ w83 ⟨o46n, rfl, ⟨S82, C, h84, h0, h43⟩⟩
          replace h27 := h27.1 _ rfl
          refine h84.cw fun ρ => ?_
          clear h84
          refine cw_region (sv (rv_fieldAddr st46 rfl rfl) ?_)
          obtain ⟨cs85, h86, h87⟩ := Ow.cellsO h43 (show at_ [y40] (0 : Int) = some y40 from rfl)
          obtain rfl := api_Label.r.1 h86
          refine sr (rw_el1 (off := 0) ag9 (h87 _ (Sm.refl _ _)) rfl rfl) (sv (asv (.string y40.Name) rfl) (W.e ?_))
          obtain rfl := osi h27
          exact ⟨_, rfl, ⟨_, C, ⟨rfl, rfl, rfl, rfl, rfl, trivial⟩, h0⟩⟩
      · rintro ρ w89 ⟨o24n, rfl, ⟨S88, C, h90, h0⟩⟩
        replace h18 := h18.1 _ rfl
        refine h90.cw fun ρ => ?_
        clear h90
        refine cw_region ?_
        obtain ⟨y91, h92, h18⟩ := pur_some h18
        refine sv (rv_add rfl rfl h92) (sv (mvv (.int .i64 y91) rfl) (W.e ?_))
        obtain rfl := osi h18
        exact ⟨_, rfl, ⟨_, C, ⟨rfl, rfl, rfl, rfl, rfl, trivial⟩, h0⟩⟩
    · refine cw_f rfl b23 (cw_exit ?_)
      obtain rfl := osi h18
      have h93 := congrArg some h17
      obtain rfl := osi h93
      exact ⟨_, rfl, ⟨_, C, ⟨rfl, trivial⟩, h0⟩⟩
  · rintro ρ w95 ⟨o5n, rfl, ⟨S94, C, h96, h0⟩⟩
    replace h := h.1 _ rfl
    refine h96.cw fun ρ => ?_
    clear h96
    refine cw_seq fun K97 k98 => ?_
    refine cw_region (sv (mvv v0 rfl) ?_)
    obtain ⟨y99, h100, h⟩ := bnd_some h
    refine sc (dc_call (vs := [v0, .int .i64 6]) can89 rfl ?_)
    refine (label_within_api_Label_w C.sb h0 h100).mono ?_
    rintro _ w101 ⟨S102, rfl, c103⟩
    refine ⟨_, rfl, ?_⟩
    replace C := C.trans c103
    refine sv (asv (.bool y99) rfl) (W.e (k98 _ _ (cw_ret ?_)))
    obtain rfl := osi h
    exact ⟨_, rfl, _, rfl, C⟩

noncomputable def label_Sort (a0 : List api_Label) : Option ((List api_Label) × Int) :=
  ((slices_Clone_api_Label_api_Label a0).bind fun y5 => ((slices_SortStableFunc_api_Label_api_Label__label_Sort_1 y5).bind fun y14 => ((label_Right y14).bind fun y27 => (bif (!y27) then some (([] : List api_Label), (50 : Int)) else some (y14, (0 : Int))))))
theorem label_Sort_w {S : Nat → Prop} {w : World} {a0 : List api_Label} {v0 : Value} {r : (List api_Label) × Int} (hS : Sb S w) (h0 : Sl (kSl api_Label.k) S w v0 a0) (h : label_Sort a0 = some r) :
    Calls Tryz.prog 70 (List.toArray [v0]) w fun e w1 => ∃ S1 u0, e = .returned (.tuple (List.toArray [u0, .int .i64 r.2])) ∧ Cx No S w S1 w1 ∧ Sl (kSl api_Label.k) S1 w1 u0 r.1 := by
  refine enter Tryz.func70 rfl (by kernel_rfl) rfl ?_
  have C := Cx.refl (F := No) hS
  unfold label_Sort at h
  refine cw_seq fun K1 k2 => ?_
  refine cw_region (sv (asv (.slice none 0 0) rfl) (sv (asv (.int .i64 0) rfl) (W.e (k2 _ _ ?_))))
  refine cw_seq fun K3 k4 => ?_
  refine cw_region (sv (mvv v0 rfl) ?_)
  obtain ⟨y5, h6, h⟩ := bnd_some h
  refine sc (dc_call (vs := [v0]) can58 rfl ?_)
  refine (slices_Clone_api_Label_api_Label_w C.sb h0 h6).mono ?_
  rintro _ w7 ⟨S8, v10, rfl, c9, h11⟩
  refine ⟨_, rfl, ?_⟩
  replace h11 := h11.base C.up.size
  replace C := C.trans c9
  refine sv (asv v10 rfl) (W.e (k4 _ _ ?_))
  refine cw_seq fun K12 k13 => ?_
  refine cw_region (sv (mvv v10 rfl) ?_)
  obtain ⟨y14, h15, h⟩ := bnd_some h
  refine sc (dc_call (vs := [v10, .func (.func 91) #[] #[]]) can90 rfl ?_)
  refine (slices_SortStableFunc_api_Label_api_Label__label_Sort_1_w C.sb h11 h15).mono ?_
  rintro _ w16 ⟨S21, rfl, c22, h18⟩
  refine ⟨_, rfl, ?_⟩
  replace C := C.ofc c22 (fun b hb => .inr (h11.lt b hb).1)
  refine W.e (k13 _ _ ?_)
  refine cw_seq fun K23 k24 => ?_
  refine cw_seq fun K25 k26 => ?_
  refine cw_region (sv (mvv v10 rfl) ?_)
  replace C := C.sealO h18
  replace h18 := h18.sealed
  obtain ⟨y27, h28, h⟩ := bnd_some h
  refine sc (dc_call (vs := [v10]) can62 rfl ?_)
  refine (label_Right_w C.sb h18 h28).mono ?_
  rintro _ w29 ⟨S30, rfl, c31⟩
  refine ⟨_, rfl, ?_⟩
  replace h18 := h18.cx c31
  replace C := C.trans c31
  refine sv (rv_not rfl) (W.e (k26 _ _ ?_))
  rcases bif_some h with ⟨b32, h⟩ | ⟨b32, h⟩
  · refine cw_t rfl b32 ?_
    refine cw_seq fun K33 k34 => ?_
    refine cw_region (sv (asv (.slice none 0 0) rfl) (sv (asv (.int .i64 50) rfl) (W.e (k34 _ _ (cw_ret ?_)))))
    obtain rfl := osi h
    exact ⟨_, rfl, _, _, rfl, C, (sl_nil _ _ _)⟩
  · refine cw_f rfl b32 (cw_skip (k24 _ _ ?_))
    refine cw_seq fun K35 k36 => ?_
    refine cw_region (sv (mvv v10 rfl) (sv (asv v10 rfl) (sv (asv (.int .i64 0) rfl) (W.e (k36 _ _ (cw_ret ?_))))))
    obtain rfl := osi h
    exact ⟨_, rfl, _, _, rfl, C, h18⟩

noncomputable def octs_Put.b2 (x32 : Int) (x33 : List Int) : Option ((Int × (List Int)) ⊕ (Int × (List Int))) :=
  (bif (decide ((128 : Int) ≤ x32)) then (pur (IntKind.u8.wrap x32) fun y43 => (pur (ior .u8 y43 (128 : Int)) fun y45 => ((app_ 1 x33 ([y45] : List Int)).bind fun y53 => (pur (ishr .u64 x32 (7 : Int)) fun y61 => some (.inl (y61, y53)))))) else some (.inr (x32, x33)))
noncomputable def octs_Put (a0 : List Int) (a1 : Int) : Option (List Int) :=
  (pur (IntKind.i64.wrap ((a0.length : Int) + (10 : Int))) fun y5 => ((room_ 1 y5).bind fun y7 => ((app_ 1 ([] : List Int) a0).bind fun y14 => ((iter (fun s : Int × (List Int) => octs_Put.b2 s.1 s.2) (a1, y14)).bind fun o22 => (pur (IntKind.u8.wrap o22.1) fun y71 => ((app_ 1 o22.2 ([y71] : List Int)).bind fun y79 => some y79))))))
theorem octs_Put_w {S : Nat → Prop} {w : World} {a0 : List Int} {a1 : Int} {v0 : Value} {r : (List Int)} (hS : Sb S w) (h0 : Sl (kSl (kI .u8)) S w v0 a0) (h : octs_Put a0 a1 = some r) :
    Calls Tryz.prog 33 (List.toArray [v0, .int .u64 a1]) w fun e w1 => ∃ S1 u0, e = .returned (u0) ∧ Cx No S w S1 w1 ∧ Ow (kI .u8) 5 S1 w.heap.size w1 u0 r := by
  refine enter Tryz.func33 rfl (by kernel_rfl) rfl ?_
  have C := Cx.refl (F := No) hS
  unfold octs_Put at h
  refine cw_seq fun K1 k2 => ?_
  refine cw_region (sv (asv (.slice none 0 0) rfl) (W.e (k2 _ _ ?_)))
  refine cw_seq fun K3 k4 => ?_
  refine cw_region (sv (mvv v0 rfl) (sv (rv_lenS el36 h0 rfl) ?_))
  obtain ⟨y5, h6, h⟩ := pur_some h
  refine sv (rv_add rfl rfl h6) ?_
  obtain ⟨y7, h8, h⟩ := bnd_some h
  refine sc (dc_makeS el36 rfl rfl h8 C.up.size C.sb fun v9 w10 h11 h12 u13 => ?_)
  replace h0 := h0.nw u13
  replace C := C.new u13
  refine sv (mvv v0 rfl) ?_
  obtain ⟨y14, h15, h⟩ := bnd_some h
  have h21 := h11
  refine sc (dc_append el36 (by decide) h21 (h0.src fun _ h => h) rfl rfl h15 C.up.size C.sb fun v16 w17 h18 u19 h20 => ?_)
  replace C := C.ow h21 u19
  refine sv (asv v16 rfl) (W.e (k4 _ _ ?_))
  obtain ⟨o22, h25, h⟩ := bnd_some h
  refine cw_seq' (fun ρ w1 => ∃ S1 v66, Cx No S w S1 w1 ∧ Has ρ [(1, .int .u64 o22.1), (5, v66)] ∧ Ow (kI .u8) 5 S1 w.heap.size w1 v66 o22.2) ?_ ?_
  · refine cw_block ?_
    refine cw_iter h25 (fun s ρ w1 => ∃ S1 v29, Cx No S w S1 w1 ∧ Has ρ [(1, .int .u64 s.1), (5, v29)] ∧ Ow (kI .u8) 5 S1 w.heap.size w1 v29 s.2) ⟨_, _, C, ⟨rfl, rfl, trivial⟩, h18⟩ ?_
    rintro ⟨x32, x33⟩ q26 ρ w28 ⟨S27, v29, C, h31, h30⟩ h35 h34
    refine h31.cw fun ρ => ?_
    clear h31
    replace h35 : octs_Put.b2 x32 x33 = some q26 := h35
    unfold octs_Put.b2 at h35
    refine cw_seq fun K36 k37 => ?_
    refine cw_seq fun K38 k39 => ?_
    refine cw_region (sv (mvv (.int .u64 x32) rfl) (sv (rv_geq rfl rfl) (W.e (k39 _ _ ?_))))
    rcases bif_some h35 with ⟨b40, h35⟩ | ⟨b40, h35⟩
    · refine cw_t rfl b40 (cw_skip (k37 _ _ ?_))
      refine cw_seq fun K41 k42 => ?_
      refine cw_block (cw_region (sv (mvv v29 rfl) (sv (mvv (.int .u64 x32) rfl) ?_)))
      obtain ⟨y43, h44, h35⟩ := pur_some h35
      refine sv (rv_conv Tryz.underlying74 Tryz.underlying5 rfl h44) ?_
      obtain ⟨y45, h46, h35⟩ := pur_some h35
      refine sv (rv_or rfl rfl h46) ?_
      refine sc (dc_lit (vs := [.int .u8 y45]) (xs := ([y45] : List Int)) (base := w.heap.size) el36 rfl rfl (.cons (sl_sc.2 rfl) (.nil)) (Nat.le_of_ble_eq_true rfl) C.up.size C.sb fun v47 w48 h49 h50 u51 => ?_)
      have p52 := ap_fresh h50 (fun b hb => (h30.lt b hb).2)
      replace h30 := h30.nw u51
      replace C := C.new u51
      obtain ⟨y53, h54, h35⟩ := bnd_some h35
      have h60 := h30
      refine sc (dc_append el36 (by decide) h60 h49.src rfl rfl h54 C.up.size C.sb fun v55 w56 h57 u58 h59 => ?_)
      replace C := C.ow h60 u58
      refine sv (asv v55 rfl) (W.e (k42 _ _ (cw_region (sv (mvv (.int .u64 x32) rfl) ?_))))
      obtain ⟨y61, h62, h35⟩ := pur_some h35
      refine sv (rv_shr rfl rfl (by decide) h62) (sv (asv (.int .u64 y61) rfl) (W.e ?_))
      obtain rfl := osi h35
      exact ⟨_, rfl, ⟨_, _, C, ⟨rfl, rfl, trivial⟩, h57⟩⟩
    · refine cw_f rfl b40 (cw_exit ?_)
      obtain rfl := osi h35
      have h63 := congrArg some h34
      obtain rfl := osi h63
      exact ⟨_, _, C, ⟨rfl, rfl, trivial⟩, h30⟩
  · rintro ρ w65 ⟨S64, v66, C, h68, h67⟩
    refine h68.cw fun ρ => ?_
    clear h68
    refine cw_seq fun K69 k70 => ?_
    refine cw_region (sv (mvv v66 rfl) (sv (mvv (.int .u64 o22.1) rfl) ?_))
    obtain ⟨y71, h72, h⟩ := pur_some h
    refine sv (rv_conv Tryz.underlying74 Tryz.underlying5 rfl h72) ?_
    refine sc (dc_lit (vs := [.int .u8 y71]) (xs := ([y71] : List Int)) (base := w.heap.size) el36 rfl rfl (.cons (sl_sc.2 rfl) (.nil)) (Nat.le_of_ble_eq_true rfl) C.up.size C.sb fun v73 w74 h75 h76 u77 => ?_)
    have p78 := ap_fresh h76 (fun b hb => (h67.lt b hb).2)
    replace h67 := h67.nw u77
    replace C := C.new u77
    obtain ⟨y79, h80, h⟩ := bnd_some h
    have h86 := h67
    refine sc (dc_append el36 (by decide) h86 h75.src rfl rfl h80 C.up.size C.sb fun v81 w82 h83 u84 h85 => ?_)
    replace C := C.ow h86 u84
    refine sv (asv v81 rfl) (W.e (k70 _ _ (cw_ret ?_)))
    obtain rfl := osi h
    exact ⟨_, rfl, _, _, rfl, C, h83⟩

noncomputable def octs_PutText (a0 : List Int) (a1 : ByteArray) : Option (List Int) :=
  (pur (IntKind.u64.wrap (a1.size : Int)) fun y5 => ((octs_Put a0 y5).bind fun y7 => ((app_ 1 y7 (strB a1)).bind fun y14 => some y14)))
theorem octs_PutText_w {S : Nat → Prop} {w : World} {a0 : List Int} {a1 : ByteArray} {v0 : Value} {r : (List Int)} (hS : Sb S w) (h0 : Sl (kSl (kI .u8)) S w v0 a0) (h : octs_PutText a0 a1 = some r) :
    Calls Tryz.prog 63 (List.toArray [v0, .string a1]) w fun e w1 => ∃ S1 u0, e = .returned (u0) ∧ Cx No S w S1 w1 ∧ Ow (kI .u8) 5 S1 w.heap.size w1 u0 r := by
  refine enter Tryz.func63 rfl (by kernel_rfl) rfl ?_
  have C := Cx.refl (F := No) hS
  unfold octs_PutText at h
  refine cw_seq fun K1 k2 => ?_
  refine cw_region (sv (asv (.slice none 0 0) rfl) (W.e (k2 _ _ ?_)))
  refine cw_seq fun K3 k4 => ?_
  refine cw_region (sv (mvv v0 rfl) (sv (mvv (.string a1) rfl) (sv (rv_slen Tryz.underlying9 rfl) ?_)))
  obtain ⟨y5, h6, h⟩ := pur_some h
  refine sv (rv_conv Tryz.underlying3 Tryz.underlying74 rfl h6) ?_
  obtain ⟨y7, h8, h⟩ := bnd_some h
  refine sc (dc_call (vs := [v0, .int .u64 y5]) can33 rfl ?_)
  refine (octs_Put_w C.sb h0 h8).mono ?_
  rintro _ w9 ⟨S10, v12, rfl, c11, h13⟩
  refine ⟨_, rfl, ?_⟩
  replace h13 := h13.base C.up.size
  replace C := C.trans c11
  refine sv (mvv (.string a1) rfl) ?_
  obtain ⟨y14, h15, h⟩ := bnd_some h
  have h21 := h13
  refine sc (dc_appendS el36 Tryz.underlying9 zv5 h21 rfl rfl h15 C.up.size C.sb fun v16 w17 h18 u19 h20 => ?_)
  replace C := C.ow h21 u19
  refine sv (asv v16 rfl) (W.e (k4 _ _ (cw_ret ?_)))
  obtain rfl := osi h
  exact ⟨_, rfl, _, _, rfl, C, h18⟩

noncomputable def label_Put.b2 (a0 : List api_Label) (x38 : List Int) (x39 : Int) : Option (((List Int) × Int) ⊕ ((List Int))) :=
  (bif (decide (x39 < (a0.length : Int))) then ((at_ a0 x39).bind fun y51 => (pur y51 fun y62 => ((octs_PutText x38 y62.Name).bind fun y77 => ((octs_PutText y77 y62.Val).bind fun y86 => (pur (IntKind.i64.wrap (x39 + (1 : Int))) fun y95 => some (.inl (y86, y95))))))) else some (.inr x38))
noncomputable def label_Put (a0 : List api_Label) : Option ((List Int) × Int) :=
  ((label_Right a0).bind fun y7 => (bif (!y7) then some (([] : List Int), (50 : Int)) else (pur (IntKind.u64.wrap (a0.length : Int)) fun y17 => ((octs_Put ([] : List Int) y17).bind fun y19 => ((iter (fun s : (List Int) × Int => label_Put.b2 a0 s.1 s.2) (y19, (0 : Int))).bind fun o26 => some (o26, (0 : Int)))))))
theorem label_Put_w {S : Nat → Prop} {w : World} {a0 : List api_Label} {v0 : Value} {r : (List Int) × Int} (hS : Sb S w) (h0 : Sl (kSl api_Label.k) S w v0 a0) (h : label_Put a0 = some r) :
    Calls Tryz.prog 35 (List.toArray [v0]) w fun e w1 => ∃ S1 u0, e = .returned (.tuple (List.toArray [u0, .int .i64 r.2])) ∧ Cx No S w S1 w1 ∧ Ow (kI .u8) 5 S1 w.heap.size w1 u0 r.1 := by
  refine enter Tryz.func35 rfl (by kernel_rfl) rfl ?_
  have C := Cx.refl (F := No) hS
  unfold label_Put at h
  refine cw_seq fun K1 k2 => ?_
  refine cw_region (sv (asv (.slice none 0 0) rfl) (sv (asv (.int .i64 0) rfl) (W.e (k2 _ _ ?_))))
  refine cw_seq fun K3 k4 => ?_
  refine cw_seq fun K5 k6 => ?_
  refine cw_region (sv (mvv v0 rfl) ?_)
  obtain ⟨y7, h8, h⟩ := bnd_some h
  refine sc (dc_call (vs := [v0]) can62 rfl ?_)
  refine (label_Right_w C.sb h0 h8).mono ?_
  rintro _ w9 ⟨S10, rfl, c11⟩
  refine ⟨_, rfl, ?_⟩
  replace h0 := h0.cx c11
  replace C := C.trans c11
  refine sv (rv_not rfl) (W.e (k6 _ _ ?_))
  rcases bif_some h with ⟨b12, h⟩ | ⟨b12, h⟩
  · refine cw_t rfl b12 ?_
    refine cw_seq fun K13 k14 => ?_
    refine cw_region (sv (asv (.slice none 0 0) rfl) (sv (asv (.int .i64 50) rfl) (W.e (k14 _ _ (cw_ret ?_)))))
    obtain rfl := osi h
    exact ⟨_, rfl, _, _, rfl, C, Ow.nil _ _ _ _ _⟩
  · refine cw_f rfl b12 (cw_skip (k4 _ _ ?_))
    refine cw_seq fun K15 k16 => ?_
    refine cw_region (sv (mvv v0 rfl) (sv (rv_lenS el31 h0 rfl) ?_))
    obtain ⟨y17, h18, h⟩ := pur_some h
    refine sv (rv_conv Tryz.underlying3 Tryz.underlying74 rfl h18) ?_
    obtain ⟨y19, h20, h⟩ := bnd_some h
    refine sc (dc_call (vs := [.slice none 0 0, .int .u64 y17]) can33 rfl ?_)
    refine (octs_Put_w C.sb (sl_nil _ _ _) h20).mono ?_
    rintro _ w21 ⟨S22, v24, rfl, c23, h25⟩
    refine ⟨_, rfl, ?_⟩
    replace h25 := h25.base C.up.size
    replace h0 := h0.cx c23
    replace C := C.trans c23
    refine sv (asv v24 rfl) (W.e (k16 _ _ ?_))
    obtain ⟨o26, h29, h⟩ := bnd_some h
    refine cw_seq' (fun ρ w1 => ∃ S1 v100, Cx No S w S1 w1 ∧ Has ρ [(4, v100)] ∧ Ow (kI .u8) 5 S1 w.heap.size w1 v100 o26) ?_ ?_
    · refine cw_seq fun K30 k31 => ?_
      refine cw_region (sv (mvv v0 rfl) (sv (rv_lenS el31 h0 rfl) (sv (mvv (.int .i64 0) rfl) (W.e (k31 _ _ (cw_block ?_))))))
      refine cw_iter h29 (fun s ρ w1 => ∃ S1 v35, Cx No S w S1 w1 ∧ Has ρ [(4, v35), (14, v0), (15, .int .i64 (a0.length : Int)), (16, .int .i64 s.2)] ∧ Ow (kI .u8) 5 S1 w.heap.size w1 v35 s.1 ∧ Sl (kSl api_Label.k) S1 w1 v0 a0) ⟨_, _, C, ⟨rfl, rfl, rfl, rfl, trivial⟩, h25, h0⟩ ?_
      rintro ⟨x38, x39⟩ q32 ρ w34 ⟨S33, v35, C, h37, h36, h0⟩ h41 h40
      refine h37.cw fun ρ => ?_
      clear h37
      replace h41 : label_Put.b2 a0 x38 x39 = some q32 := h41
      unfold label_Put.b2 at h41
      refine cw_seq fun K42 k43 => ?_
      refine cw_region (sv (rv_lss rfl rfl) (W.e (k43 _ _ ?_)))
      refine cw_seq fun K44 k45 => ?_
      rcases bif_some h41 with ⟨b46, h41⟩ | ⟨b46, h41⟩
      · refine cw_t rfl b46 (cw_skip (k45 _ _ ?_))
        refine cw_seq fun K47 k48 => ?_
        refine cw_block ?_
        refine cw_seq fun K49 k50 => ?_
        refine cw_region ?_
        obtain ⟨y51, h52, h41⟩ := bnd_some h41
        refine sv (rv_index el31 h0 rfl rfl h52) ?_
        obtain ⟨v53, h54, h55⟩ := rw_loadA (P := Tryz.prog) el31 h0 h52
        obtain rfl := api_Label.o.1 h54
        refine sr (h55 _ (Sm.refl _ _) rfl) ?_
        refine sc (dc_allocO (x0 := (api_Label.mk ByteArray.empty ByteArray.empty)) (base := w.heap.size) el31 zr46 (fun _ => api_Label.r.2 rfl) C.up.size C.sb fun b56 w57 h58 h59 u60 => ?_)
        have p61 := ap_fresh h59 (fun b hb => (h36.lt b hb).2)
        replace h36 := h36.nw u60
        replace h0 := h0.nw u60
        replace C := C.new u60
        obtain ⟨y62, h63, h41⟩ := pur_some h41
        have h67 := h58
        refine sc (dc_storeO el31 h67 (show at_ [(api_Label.mk ByteArray.empty ByteArray.empty)] (0 : Int) = some (api_Label.mk ByteArray.empty ByteArray.empty) from rfl) rfl rfl (((api_Label.o (x := y51)).2 rfl)) fun w64 h65 u66 => ?_)
        replace h65 : Ow api_Label.k 46 S33 w.heap.size w64 (.slice (some ⟨b56, 0, none⟩) 1 1) [y51] := h65
        rw [h63] at h65
        replace h36 := h36.wr u66 h67.not (ap_symm p61)
        replace h0 := h0.wr u66 h67.not
        replace C := C.ow h67 u66
        refine W.e (k50 _ _ ?_)
        refine cw_drawU (.one 0 true (.one 1 true (.one 2 true (.one 4 true (.one 5 true (.one 3 false (.one 6 false (.one 7 true .done)))))))) [(2, [9]), (5, [9])] [(3, [9]), (6, [9])] (fun c => bif Nat.beq c 9 then (fun _ => True) else No) fol (by kernel_rfl) fun w68 u69 => ?_
        replace h36 := h36.nw u69
        replace h65 := h65.nw u69
        replace h0 := h0.nw u69
        replace C := C.new u69
        have h36d := h36
        have h65d := h65
        have h0d := h0
        have m70 := Sm.refl (fun _ => True) w68
        refine mtv rfl rfl (mvv v35 rfl) (mtv rfl rfl (rv_fieldAddr st46 rfl rfl) ?_)
        obtain ⟨cs71, h72, h73⟩ := Ow.cellsO h65 (show at_ [y62] (0 : Int) = some y62 from rfl)
        obtain rfl := api_Label.r.1 h72
        refine mtr rfl rfl ⟨m70, trivial⟩ (fun w' hq => rw_el1 (off := 0) ag9 (h73 w' (hq.1.mono fun _ _ => trivial)) rfl rfl) (mtv rfl rfl (rv_fieldAddr st46 rfl rfl) ?_)
        obtain ⟨cs74, h75, h76⟩ := Ow.cellsO h65 (show at_ [y62] (0 : Int) = some y62 from rfl)
        obtain rfl := api_Label.r.1 h75
        refine mtr rfl rfl ⟨m70, trivial⟩ (fun w' hq => rw_el1 (off := 1) ag9 (h76 w' (hq.1.mono fun _ _ => trivial)) rfl rfl) ?_
        replace h0 := h0.or (T := Blk v35)
        replace C := C.sealO h36
        replace h36 := h36.sealed
        obtain ⟨y77, h78, h41⟩ := bnd_some h41
        refine mtc rfl rfl (dc_call (vs := [v35, .string y62.Name]) can63 rfl ?_)
        refine (octs_PutText_w C.sb h36 h78).mono ?_
        rintro _ w79 ⟨S80, v82, rfl, c81, h83⟩
        refine ⟨_, rfl, ?_⟩
        replace h83 := h83.base C.up.size
        replace h0 := h0.cx c81
        replace C := C.trans c81
        have z84 := (c81.up).size
        have m85 := m70.nx c81.up (by omega)
        refine ⟨⟨m85, trivial⟩, ?_⟩
        replace h0 := h0.or (T := Blk v82)
        replace C := C.sealO h83
        replace h83 := h83.sealed
        obtain ⟨y86, h87, h41⟩ := bnd_some h41
        refine mtc rfl rfl (dc_call (vs := [v82, .string y62.Val]) can63 rfl ?_)
        refine (octs_PutText_w C.sb h83 h87).mono ?_
        rintro _ w88 ⟨S89, v91, rfl, c90, h92⟩
        refine ⟨_, rfl, ?_⟩
        replace h92 := h92.base C.up.size
        replace h0 := h0.cx c90
        replace C := C.trans c90
        have z93 := (c90.up).size
        have m94 := m85.nx c90.up (by omega)
        refine ⟨⟨m94, trivial⟩, ?_⟩
        refine mtv rfl rfl (asv v91 rfl) (MT.e (k48 _ _ (cw_region ?_)))
        obtain ⟨y95, h96, h41⟩ := pur_some h41
        refine sv (rv_add rfl rfl h96) (sv (mvv (.int .i64 y95) rfl) (W.e ?_))
        obtain rfl := osi h41
        exact ⟨_, rfl, ⟨_, _, C, ⟨rfl, rfl, rfl, rfl, trivial⟩, h92, h0⟩⟩
      · refine cw_f rfl b46 (cw_exit ?_)
        obtain rfl := osi h41
        have h97 := congrArg some h40
        obtain rfl := osi h97
        exact ⟨_, _, C, ⟨rfl, trivial⟩, h36⟩
    · rintro ρ w99 ⟨S98, v100, C, h102, h101⟩
      refine h102.cw fun ρ => ?_
      clear h102
      refine cw_seq fun K103 k104 => ?_
      refine cw_region (sv (mvv v100 rfl) (sv (asv v100 rfl) (sv (asv (.int .i64 0) rfl) (W.e (k104 _ _ (cw_ret ?_))))))
      obtain rfl := osi h
      exact ⟨_, rfl, _, _, rfl, C, h101⟩

noncomputable def index_key (a0 : List api_Label) : Option ((List api_Label) × ByteArray × Int) :=
  ((label_Sort a0).bind fun y5 => (bif (y5.2 != (0 : Int)) then some (([] : List api_Label), ByteArray.empty, y5.2) else ((label_Put y5.1).bind fun y21 => some (y5.1, (strOf y21.1), y21.2))))
theorem index_key_w {S : Nat → Prop} {w : World} {a0 : List api_Label} {v0 : Value} {r : (List api_Label) × ByteArray × Int} (hS : Sb S w) (h0 : Sl (kSl api_Label.k) S w v0 a0) (h : index_key a0 = some r) :
    Calls Tryz.prog 43 (List.toArray [v0]) w fun e w1 => ∃ S1 u0, e = .returned (.tuple (List.toArray [u0, .string r.2.1, .int .i64 r.2.2])) ∧ Cx No S w S1 w1 ∧ Sl (kSl api_Label.k) S1 w1 u0 r.1 := by
  refine enter Tryz.func43 rfl (by kernel_rfl) rfl ?_
  have C := Cx.refl (F := No) hS
  unfold index_key at h
  refine cw_seq fun K1 k2 => ?_
  refine cw_region (sv (asv (.slice none 0 0) rfl) (sv (asv (.string ByteArray.empty) rfl) (sv (asv (.int .i64 0) rfl) (W.e (k2 _ _ ?_)))))
  refine cw_seq fun K3 k4 => ?_
  refine cw_region (sv (mvv v0 rfl) ?_)
  obtain ⟨y5, h6, h⟩ := bnd_some h
  refine sc (dc_call (vs := [v0]) can70 rfl ?_)
  refine (label_Sort_w C.sb h0 h6).mono ?_
  rintro _ w7 ⟨S8, v10, rfl, c9, h11⟩
  refine ⟨_, rfl, ?_⟩
  replace C := C.trans c9
  refine sv (mvv (.tuple (List.toArray [v10, .int .i64 y5.2])) rfl) (sv (rv_extract rfl rfl) (sv (rv_extract rfl rfl) (sv (asv v10 rfl) (sv (asv (.int .i64 y5.2) rfl) (W.e (k4 _ _ ?_))))))
  refine cw_seq fun K12 k13 => ?_
  refine cw_seq fun K14 k15 => ?_
  refine cw_region (sv (mvv (.int .i64 y5.2) rfl) (sv (rv_neq rfl rfl) (W.e (k15 _ _ ?_))))
  rcases bif_some h with ⟨b16, h⟩ | ⟨b16, h⟩
  · refine cw_t rfl b16 ?_
    refine cw_seq fun K17 k18 => ?_
    refine cw_region (sv (mvv (.int .i64 y5.2) rfl) (sv (asv (.slice none 0 0) rfl) (sv (asv (.string ByteArray.empty) rfl) (sv (asv (.int .i64 y5.2) rfl) (W.e (k18 _ _ (cw_ret ?_)))))))
    obtain rfl := osi h
    exact ⟨_, rfl, _, _, rfl, C, (sl_nil _ _ _)⟩
  · refine cw_f rfl b16 (cw_skip (k13 _ _ ?_))
    refine cw_seq fun K19 k20 => ?_
    refine cw_region (sv (mvv v10 rfl) ?_)
    obtain ⟨y21, h22, h⟩ := bnd_some h
    refine sc (dc_call (vs := [v10]) can35 rfl ?_)
    refine (label_Put_w C.sb h11 h22).mono ?_
    rintro _ w23 ⟨S24, v26, rfl, c25, h27⟩
    refine ⟨_, rfl, ?_⟩
    replace h27 := h27.base C.up.size
    replace h11 := h11.cx c25
    replace C := C.trans c25
    refine sv (mvv (.tuple (List.toArray [v26, .int .i64 y21.2])) rfl) (sv (rv_extract rfl rfl) (sv (rv_extract rfl rfl) (sv (asv v26 rfl) (sv (asv (.int .i64 y21.2) rfl) (W.e (k20 _ _ ?_))))))
    refine cw_seq fun K28 k29 => ?_
    refine cw_drawU (.one 0 true (.one 1 true (.one 3 true (.one 4 true (.one 2 false (.one 5 true (.one 6 true .done))))))) [] [(2, [])] (fun c => No) fol (by kernel_rfl) fun w30 u31 => ?_
    replace h11 := h11.nw u31
    replace h27 := h27.nw u31
    replace C := C.new u31
    have h11d := h11
    have h27d := h27
    refine mtv rfl rfl (mvv v10 rfl) (mtv rfl rfl (mvv v26 rfl) (mtv rfl rfl (mvv (.int .i64 y21.2) rfl) (mtv rfl rfl (asv v10 rfl) (mtc rfl rfl (Rw.does (rw_str h27.sealed (Sm.refl _ _) Tryz.underlying36 Tryz.underlying5 Tryz.underlying9 rfl) ⟨trivial, mtv rfl rfl (asv (.string (strOf y21.1)) rfl) (mtv rfl rfl (asv (.int .i64 y21.2) rfl) (MT.e (k29 _ _ (cw_ret ?_))))⟩)))))
    obtain rfl := osi h
    exact ⟨_, rfl, _, _, rfl, C, h11⟩

noncomputable def post_Right.b2 (a0 : List Int) (x15 : Int) (x16 : Int) : Option ((Int × Int) ⊕ ((Unit) ⊕ (Bool))) :=
  (bif (decide (x16 < (a0.length : Int))) then ((at_ a0 x16).bind fun y28 => (bif (decide (y28 ≤ x15)) then some (.inr (.inr false)) else (pur (IntKind.i64.wrap (x16 + (1 : Int))) fun y38 => some (.inl (y28, y38))))) else some (.inr (.inl ())))
noncomputable def post_Right (a0 : List Int) : Option Bool :=
  ((iter (fun s : Int × Int => post_Right.b2 a0 s.1 s.2) ((-1 : Int), (0 : Int))).bind (Sum.elim (fun o5n => some (decide ((a0.length : Int) ≤ (4096 : Int)))) (fun q => some q)))
theorem post_Right_w {S : Nat → Prop} {w : World} {a0 : List Int} {v0 : Value} {r : Bool} (hS : Sb S w) (h0 : Sl (kSl (kI .i64)) S w v0 a0) (h : post_Right a0 = some r) :
    Calls Tryz.prog 122 (List.toArray [v0]) w fun e w1 => ∃ S1, e = .returned (.bool r) ∧ Cx No S w S1 w1 := by
  refine enter Tryz.func122 rfl (by kernel_rfl) rfl ?_
  have C := Cx.refl (F := No) hS
  unfold post_Right at h
  refine cw_seq fun K1 k2 => ?_
  refine cw_region (sv (asv (.bool false) rfl) (W.e (k2 _ _ ?_)))
  refine cw_seq fun K3 k4 => ?_
  refine cw_region (sv (asv (.int .i64 (-1)) rfl) (W.e (k4 _ _ ?_)))
  obtain ⟨o5, h8, h⟩ := bnds_some h
  refine cw_seq' (fun ρ w1 => ∃ o5n, o5 = (.inl o5n) ∧ ∃ S1, Cx No S w S1 w1 ∧ Has ρ [(0, v0)] ∧ Sl (kSl (kI .i64)) S1 w1 v0 a0) ?_ ?_
  · refine cw_seq fun K9 k10 => ?_
    refine cw_region (sv (mvv v0 rfl) (sv (rv_lenS el49 h0 rfl) (sv (mvv (.int .i64 0) rfl) (W.e (k10 _ _ (cw_block ?_))))))
    refine cw_iter h8 (fun s ρ w1 => ∃ S1, Cx No S w S1 w1 ∧ Has ρ [(0, v0), (3, .int .i64 s.1), (6, v0), (7, .int .i64 (a0.length : Int)), (8, .int .i64 s.2)] ∧ Sl (kSl (kI .i64)) S1 w1 v0 a0) ⟨_, C, ⟨rfl, rfl, rfl, rfl, rfl, trivial⟩, h0⟩ ?_
    rintro ⟨x15, x16⟩ q11 ρ w13 ⟨S12, C, h14, h0⟩ h18 h17
    refine h14.cw fun ρ => ?_
    clear h14
    replace h18 : post_Right.b2 a0 x15 x16 = some q11 := h18
    unfold post_Right.b2 at h18
    refine cw_seq fun K19 k20 => ?_
    refine cw_region (sv (rv_lss rfl rfl) (W.e (k20 _ _ ?_)))
    refine cw_seq fun K21 k22 => ?_
    rcases bif_some h18 with ⟨b23, h18⟩ | ⟨b23, h18⟩
    · refine cw_t rfl b23 (cw_skip (k22 _ _ ?_))
      refine cw_seq fun K24 k25 => ?_
      refine cw_block ?_
      refine cw_seq fun K26 k27 => ?_
      refine cw_region ?_
      obtain ⟨y28, h29, h18⟩ := bnd_some h18
      refine sv (rv_index el49 h0 rfl rfl h29) (sr (rw_loadC el49 h0 h29 rfl _ (Sm.refl _ _)) (sv (asv (.int .i64 y28) rfl) (W.e (k27 _ _ ?_))))
      refine cw_seq fun K30 k31 => ?_
      refine cw_seq fun K32 k33 => ?_
      refine cw_region (sv (mvv (.int .i64 y28) rfl) (sv (mvv (.int .i64 x15) rfl) (sv (rv_leq rfl rfl) (W.e (k33 _ _ ?_)))))
      rcases bif_some h18 with ⟨b34, h18⟩ | ⟨b34, h18⟩
      · refine cw_t rfl b34 ?_
        refine cw_seq fun K35 k36 => ?_
        refine cw_region (sv (asv (.bool false) rfl) (W.e (k36 _ _ (cw_ret ?_))))
        obtain rfl := osi h18
        have h37 := congrArg some h17
        obtain rfl := osi h37
        replace h := h.2 _ rfl
        obtain rfl := osi h
        exact ⟨_, rfl, _, rfl, C⟩
      · refine cw_f rfl b34 (cw_skip (k31 _ _ (cw_region (sv (mvv (.int .i64 y28) rfl) (sv (asv (.int .i64 y28) rfl) (W.e (k25 _ _ (cw_region ?_))))))))
        obtain ⟨y38, h39, h18⟩ := pur_some h18
        refine sv (rv_add rfl rfl h39) (sv (mvv (.int .i64 y38) rfl) (W.e ?_))
        obtain rfl := osi h18
        exact ⟨_, rfl, ⟨_, C, ⟨rfl, rfl, rfl, rfl, rfl, trivial⟩, h0⟩⟩
    · refine cw_f rfl b23 (cw_exit ?_)
      obtain rfl := osi h18
      have h40 := congrArg some h17
      obtain rfl := osi h40
      exact ⟨_, rfl, ⟨_, C, ⟨rfl, trivial⟩, h0⟩⟩
  · rintro ρ w42 ⟨o5n, rfl, ⟨S41, C, h43, h0⟩⟩
    replace h := h.1 _ rfl
    refine h43.cw fun ρ => ?_
    clear h43
    refine cw_seq fun K44 k45 => ?_
    refine cw_region (sv (mvv v0 rfl) (sv (rv_lenS el49 h0 rfl) (sv (rv_leq rfl rfl) (sv (asv (.bool (decide ((a0.length : Int) ≤ (4096 : Int)))) rfl) (W.e (k45 _ _ (cw_ret ?_)))))))
    obtain rfl := osi h
    exact ⟨_, rfl, _, rfl, C⟩

noncomputable def post_told (a0 : List Int) : Option ((List Int) × Int) :=
  (bif (decide ((4096 : Int) < (a0.length : Int))) then some (([] : List Int), (3 : Int)) else some (a0, (0 : Int)))
theorem post_told_w {S : Nat → Prop} {w : World} {a0 : List Int} {v0 : Value} {r : (List Int) × Int} (hS : Sb S w) (h0 : Sl (kSl (kI .i64)) S w v0 a0) (h : post_told a0 = some r) :
    Calls Tryz.prog 123 (List.toArray [v0]) w fun e w1 => ∃ S1 u0, e = .returned (.tuple (List.toArray [u0, .int .i64 r.2])) ∧ Cx No S w S1 w1 ∧ Sl (kSl (kI .i64)) S1 w1 u0 r.1 := by
  refine enter Tryz.func123 rfl (by kernel_rfl) rfl ?_
  have C := Cx.refl (F := No) hS
  unfold post_told at h
  refine cw_seq fun K1 k2 => ?_
  refine cw_region (sv (asv (.slice none 0 0) rfl) (sv (asv (.int .i64 0) rfl) (W.e (k2 _ _ ?_))))
  refine cw_seq fun K3 k4 => ?_
  refine cw_seq fun K5 k6 => ?_
  refine cw_region (sv (mvv v0 rfl) (sv (rv_lenS el49 h0 rfl) (sv (rv_gtr rfl rfl) (W.e (k6 _ _ ?_)))))
  rcases bif_some h with ⟨b7, h⟩ | ⟨b7, h⟩
  · refine cw_t rfl b7 ?_
    refine cw_seq fun K8 k9 => ?_
    refine cw_region (sv (asv (.slice none 0 0) rfl) (sv (asv (.int .i64 3) rfl) (W.e (k9 _ _ (cw_ret ?_)))))
    obtain rfl := osi h
    exact ⟨_, rfl, _, _, rfl, C, (sl_nil _ _ _)⟩
  · refine cw_f rfl b7 (cw_skip (k4 _ _ ?_))
    refine cw_seq fun K10 k11 => ?_
    refine cw_region (sv (mvv v0 rfl) (sv (asv v0 rfl) (sv (asv (.int .i64 0) rfl) (W.e (k11 _ _ (cw_ret ?_))))))
    obtain rfl := osi h
    exact ⟨_, rfl, _, _, rfl, C, h0⟩

noncomputable def post_merge.b4 (a2 : Bool) (a3 : Bool) (a4 : Bool) (x47 : List Int) (x48 : List Int) (x49 : List Int) : Option (((List Int) × (List Int) × (List Int)) ⊕ ((List Int) × (List Int) × (List Int))) :=
  (((bif (decide ((0 : Int) < (x47.length : Int))) then some (decide ((0 : Int) < (x48.length : Int))) else some false).bind fun o56 => (bif o56 then some (.inl ()) else some (.inr (.inr (x47, x48, x49))))).bind (Sum.elim (fun o52n => ((at_ x47 (0 : Int)).bind fun y74 => ((at_ x48 (0 : Int)).bind fun y76 => (bif (decide (y74 < y76)) then ((bif a2 then ((app_ 8 x49 ([y74] : List Int)).bind fun y94 => some y94) else some x49).bind fun o81 => ((from_ x47 (1 : Int)).bind fun y107 => some (.inl (y107, x48, o81)))) else (bif (decide (y76 < y74)) then ((bif a4 then ((app_ 8 x49 ([y76] : List Int)).bind fun y128 => some y128) else some x49).bind fun o115 => ((from_ x48 (1 : Int)).bind fun y141 => some (.inl (x47, y141, o115)))) else ((bif a3 then ((app_ 8 x49 ([y74] : List Int)).bind fun y159 => some y159) else some x49).bind fun o146 => ((from_ x47 (1 : Int)).bind fun y174 => ((from_ x48 (1 : Int)).bind fun y179 => some (.inl (y174, y179, o146)))))))))) (fun q => some q)))
noncomputable def post_merge (a0 : List Int) (a1 : List Int) (a2 : Bool) (a3 : Bool) (a4 : Bool) : Option ((List Int) × Int) :=
  ((((post_Right a0).bind fun y11 => (bif (!y11) then some true else ((post_Right a1).bind fun y17 => some (!y17)))).bind fun o7 => (bif o7 then some (.inr (([] : List Int), (1 : Int))) else some (.inl ()))).bind (Sum.elim (fun o3n => ((iter (fun s : (List Int) × (List Int) × (List Int) => post_merge.b4 a2 a3 a4 s.1 s.2.1 s.2.2) (a0, a1, ([] : List Int))).bind fun o33 => ((bif a2 then ((app_ 8 o33.2.2 o33.1).bind fun y200 => some y200) else some o33.2.2).bind fun o193 => ((bif a4 then ((app_ 8 o193 o33.2.1).bind fun y220 => some y220) else some o193).bind fun o213 => ((post_told o213).bind fun y235 => some (y235.1, y235.2)))))) (fun q => some q)))
theorem post_merge_w {S : Nat → Prop} {w : World} {a0 : List Int} {a1 : List Int} {a2 : Bool} {a3 : Bool} {a4 : Bool} {v0 v1 : Value} {r : (List Int) × Int} (hS : Sb S w) (h0 : Sl (kSl (kI .i64)) S w v0 a0) (h1 : Sl (kSl (kI .i64)) S w v1 a1) (h : post_merge a0 a1 a2 a3 a4 = some r) :
    Calls Tryz.prog 95 (List.toArray [v0, v1, .bool a2, .bool a3, .bool a4]) w fun e w1 => ∃ S1 u0, e = .returned (.tuple (List.toArray [u0, .int .i64 r.2])) ∧ Cx No S w S1 w1 ∧ Sl (kSl (kI .i64)) S1 w1 u0 r.1 := by
  refine enter Tryz.func95 rfl (by kernel_rfl) rfl ?_
  have C := Cx.refl (F := No) hS
  unfold post_merge at h
  refine cw_seq fun K1 k2 => ?_
  refine cw_region (sv (asv (.slice none 0 0) rfl) (sv (asv (.int .i64 0) rfl) (W.e (k2 _ _ ?_))))
  obtain ⟨o3, h6, h⟩ := bnds_some h
  refine cw_seq' (fun ρ w1 => ∃ o3n, o3 = (.inl o3n) ∧ ∃ S1, Cx No S w S1 w1 ∧ Has ρ [(0, v0), (1, v1), (2, .bool a2), (3, .bool a3), (4, .bool a4)] ∧ Sl (kSl (kI .i64)) S1 w1 v0 a0 ∧ Sl (kSl (kI .i64)) S1 w1 v1 a1) ?_ ?_
  · obtain ⟨o7, h10, h6⟩ := bnd_some h6
    refine cw_seq' (fun ρ w1 => ∃ S1, Cx No S w S1 w1 ∧ Has ρ [(0, v0), (1, v1), (2, .bool a2), (3, .bool a3), (4, .bool a4), (22, .bool o7)] ∧ Sl (kSl (kI .i64)) S1 w1 v0 a0 ∧ Sl (kSl (kI .i64)) S1 w1 v1 a1) ?_ ?_
    · refine cw_region (sv (mvv v0 rfl) ?_)
      obtain ⟨y11, h12, h10⟩ := bnd_some h10
      refine sc (dc_call (vs := [v0]) can122 rfl ?_)
      refine (post_Right_w C.sb h0 h12).mono ?_
      rintro _ w13 ⟨S14, rfl, c15⟩
      refine ⟨_, rfl, ?_⟩
      replace h0 := h0.cx c15
      replace h1 := h1.cx c15
      replace C := C.trans c15
      refine sv (rv_not rfl) (sv (mvv (.bool (!y11)) rfl) ?_)
      rcases bif_some h10 with ⟨b16, h10⟩ | ⟨b16, h10⟩
      · refine W.n (gn rfl rfl rfl b16) (W.n (gn rfl rfl rfl b16) (W.n (gn rfl rfl rfl b16) (sv (ptk (.bool true) rfl b16 rfl) (W.e ?_))))
        obtain rfl := osi h10
        exact ⟨_, C, ⟨rfl, rfl, rfl, rfl, rfl, rfl, trivial⟩, h0, h1⟩
      · refine W.v (gy rfl rfl rfl b16) (mvv v1 rfl) ?_
        obtain ⟨y17, h18, h10⟩ := bnd_some h10
        refine W.c (gy rfl rfl rfl b16) (dc_call (vs := [v1]) can122 rfl ?_)
        refine (post_Right_w C.sb h1 h18).mono ?_
        rintro _ w19 ⟨S20, rfl, c21⟩
        refine ⟨_, rfl, ?_⟩
        replace h0 := h0.cx c21
        replace h1 := h1.cx c21
        replace C := C.trans c21
        refine W.v (gy rfl rfl rfl b16) (rv_not rfl) (sv (pfk (.bool (!y17)) rfl b16 rfl) (W.e ?_))
        obtain rfl := osi h10
        exact ⟨_, C, ⟨rfl, rfl, rfl, rfl, rfl, rfl, trivial⟩, h0, h1⟩
    · rintro ρ w23 ⟨S22, C, h24, h0, h1⟩
      refine h24.cw fun ρ => ?_
      clear h24
      rcases bif_some h6 with ⟨b25, h6⟩ | ⟨b25, h6⟩
      · refine cw_t rfl b25 ?_
        refine cw_seq fun K26 k27 => ?_
        refine cw_region (sv (asv (.slice none 0 0) rfl) (sv (asv (.int .i64 1) rfl) (W.e (k27 _ _ (cw_ret ?_)))))
        obtain rfl := osi h6
        replace h := h.2 _ rfl
        obtain rfl := osi h
        exact ⟨_, rfl, _, _, rfl, C, (sl_nil _ _ _)⟩
      · refine cw_f rfl b25 (cw_skip ?_)
        obtain rfl := osi h6
        exact ⟨_, rfl, ⟨_, C, ⟨rfl, rfl, rfl, rfl, rfl, trivial⟩, h0, h1⟩⟩
  · rintro ρ w29 ⟨o3n, rfl, ⟨S28, C, h30, h0, h1⟩⟩
    replace h := h.1 _ rfl
    refine h30.cw fun ρ => ?_
    clear h30
    refine cw_seq fun K31 k32 => ?_
    refine cw_region (sv (asv (.slice none 0 0) rfl) (W.e (k32 _ _ ?_)))
    obtain ⟨o33, h36, h⟩ := bnd_some h
    refine cw_seq' (fun ρ w1 => ∃ S1 v186 v188 v190, Cx No S w S1 w1 ∧ Has ρ [(0, v186), (1, v188), (2, .bool a2), (4, .bool a4), (12, v190)] ∧ Sl (kSl (kI .i64)) S1 w1 v186 o33.1 ∧ Sl (kSl (kI .i64)) S1 w1 v188 o33.2.1 ∧ Ow (kI .i64) 3 S1 w.heap.size w1 v190 o33.2.2) ?_ ?_
    · refine cw_block ?_
      refine cw_iter h36 (fun s ρ w1 => ∃ S1 v40 v42 v44, Cx No S w S1 w1 ∧ Has ρ [(0, v40), (1, v42), (2, .bool a2), (3, .bool a3), (4, .bool a4), (12, v44)] ∧ Sl (kSl (kI .i64)) S1 w1 v40 s.1 ∧ Sl (kSl (kI .i64)) S1 w1 v42 s.2.1 ∧ Ow (kI .i64) 3 S1 w.heap.size w1 v44 s.2.2) ⟨_, _, _, _, C, ⟨rfl, rfl, rfl, rfl, rfl, rfl, trivial⟩, h0, h1, Ow.nil _ _ _ _ _⟩ ?_
      rintro ⟨x47, x48, x49⟩ q37 ρ w39 ⟨S38, v40, v42, v44, C, h46, h41, h43, h45⟩ h51 h50
      refine h46.cw fun ρ => ?_
      clear h46
      replace h51 : post_merge.b4 a2 a3 a4 x47 x48 x49 = some q37 := h51
      unfold post_merge.b4 at h51
      obtain ⟨o52, h55, h51⟩ := bnds_some h51
      refine cw_seq' (fun ρ w1 => ∃ o52n, o52 = (.inl o52n) ∧ ∃ S1, Cx No S w S1 w1 ∧ Has ρ [(0, v40), (1, v42), (2, .bool a2), (3, .bool a3), (4, .bool a4), (12, v44)] ∧ Sl (kSl (kI .i64)) S1 w1 v40 x47 ∧ Sl (kSl (kI .i64)) S1 w1 v42 x48 ∧ Ow (kI .i64) 3 S1 w.heap.size w1 v44 x49) ?_ ?_
      · obtain ⟨o56, h59, h55⟩ := bnd_some h55
        refine cw_seq' (fun ρ w1 => ∃ S1, Cx No S w S1 w1 ∧ Has ρ [(0, v40), (1, v42), (2, .bool a2), (3, .bool a3), (4, .bool a4), (12, v44), (30, .bool o56)] ∧ Sl (kSl (kI .i64)) S1 w1 v40 x47 ∧ Sl (kSl (kI .i64)) S1 w1 v42 x48 ∧ Ow (kI .i64) 3 S1 w.heap.size w1 v44 x49) ?_ ?_
        · refine cw_region (sv (mvv v40 rfl) (sv (rv_lenS el49 h41 rfl) (sv (rv_gtr rfl rfl) (sv (mvv (.bool (decide ((0 : Int) < (x47.length : Int)))) rfl) ?_))))
          rcases bif_some h59 with ⟨b60, h59⟩ | ⟨b60, h59⟩
          · refine W.v (gy rfl rfl rfl b60) (mvv v42 rfl) (W.v (gy rfl rfl rfl b60) (rv_lenS el49 h43 rfl) (W.v (gy rfl rfl rfl b60) (rv_gtr rfl rfl) (sv (ptk (.bool (decide ((0 : Int) < (x48.length : Int)))) rfl b60 rfl) (W.e ?_))))
            obtain rfl := osi h59
            exact ⟨_, C, ⟨rfl, rfl, rfl, rfl, rfl, rfl, rfl, trivial⟩, h41, h43, h45⟩
          · refine W.n (gn rfl rfl rfl b60) (W.n (gn rfl rfl rfl b60) (W.n (gn rfl rfl rfl b60) (sv (pfk (.bool false) rfl b60 rfl) (W.e ?_))))
            obtain rfl := osi h59
            exact ⟨_, C, ⟨rfl, rfl, rfl, rfl, rfl, rfl, rfl, trivial⟩, h41, h43, h45⟩
        · rintro ρ w62 ⟨S61, C, h63, h41, h43, h45⟩
          refine h63.cw fun ρ => ?_
          clear h63
          rcases bif_some h55 with ⟨b64, h55⟩ | ⟨b64, h55⟩
          · refine cw_t rfl b64 (cw_skip ?_)
            obtain rfl := osi h55
            exact ⟨_, rfl, ⟨_, C, ⟨rfl, rfl, rfl, rfl, rfl, rfl, trivial⟩, h41, h43, h45⟩⟩
          · refine cw_f rfl b64 (cw_exit ?_)
            obtain rfl := osi h55
            replace h51 := h51.2 _ rfl
            obtain rfl := osi h51
            have h65 := congrArg some h50
            obtain rfl := osi h65
            exact ⟨_, _, _, _, C, ⟨rfl, rfl, rfl, rfl, rfl, trivial⟩, h41, h43, h45⟩
      · rintro ρ w67 ⟨o52n, rfl, ⟨S66, C, h68, h41, h43, h45⟩⟩
        replace h51 := h51.1 _ rfl
        refine h68.cw fun ρ => ?_
        clear h68
        refine cw_block ?_
        refine cw_seq fun K69 k70 => ?_
        refine cw_drawU (.one 0 true (.one 1 true (.one 2 true (.one 3 true (.one 4 true (.one 5 true (.one 6 true (.one 7 true .done)))))))) [(2, [9]), (5, [9])] [] (fun c => bif Nat.beq c 9 then (fun _ => True) else No) fol (by kernel_rfl) fun w71 u72 => ?_
        replace h41 := h41.nw u72
        replace h43 := h43.nw u72
        replace h45 := h45.nw u72
        replace C := C.new u72
        have m73 := Sm.refl (fun _ => True) w71
        refine mtv rfl rfl (mvv v40 rfl) ?_
        obtain ⟨y74, h75, h51⟩ := bnd_some h51
        refine mtv rfl rfl (rv_index el49 h41 rfl rfl h75) (mtr rfl rfl ⟨m73, trivial⟩ (fun w' hq => rw_loadC el49 h41 h75 rfl w' (hq.1.mono fun _ _ => trivial)) (mtv rfl rfl (mvv v42 rfl) ?_))
        obtain ⟨y76, h77, h51⟩ := bnd_some h51
        refine mtv rfl rfl (rv_index el49 h43 rfl rfl h77) (mtr rfl rfl ⟨m73, trivial⟩ (fun w' hq => rw_loadC el49 h43 h77 rfl w' (hq.1.mono fun _ _ => trivial)) (mtv rfl rfl (asv (.int .i64 y74) rfl) (mtv rfl rfl (asv (.int .i64 y76) rfl) (MT.e (k70 _ _ (cw_block ?_))))))
        refine cw_seq fun K78 k79 => ?_
        refine cw_region (sv (mvv (.int .i64 y74) rfl) (sv (mvv (.int .i64 y76) rfl) (sv (rv_lss rfl rfl) (sv (asv (.bool (decide (y74 < y76))) rfl) (W.e (k79 _ _ ?_))))))
        rcases bif_some h51 with ⟨b80, h51⟩ | ⟨b80, h51⟩
        · refine cw_t rfl b80 ?_
          obtain ⟨o81, h84, h51⟩ := bnd_some h51
          refine cw_seq' (fun ρ w1 => ∃ S1 v104, Cx No S w S1 w1 ∧ Has ρ [(0, v40), (1, v42), (2, .bool a2), (3, .bool a3), (4, .bool a4), (12, v104)] ∧ Sl (kSl (kI .i64)) S1 w1 v40 x47 ∧ Sl (kSl (kI .i64)) S1 w1 v42 x48 ∧ Ow (kI .i64) 3 S1 w.heap.size w1 v104 o81) ?_ ?_
          · refine cw_seq fun K85 k86 => ?_
            refine cw_region (sv (mvv (.bool a2) rfl) (W.e (k86 _ _ ?_)))
            rcases bif_some h84 with ⟨b87, h84⟩ | ⟨b87, h84⟩
            · refine cw_t rfl b87 (cw_region (sv (mvv v44 rfl) (sv (mvv (.int .i64 y74) rfl) ?_)))
              refine sc (dc_lit (vs := [.int .i64 y74]) (xs := ([y74] : List Int)) (base := w.heap.size) el49 rfl rfl (.cons (sl_sc.2 rfl) (.nil)) (Nat.le_of_ble_eq_true rfl) C.up.size C.sb fun v88 w89 h90 h91 u92 => ?_)
              have p93 := ap_fresh h91 (fun b hb => (h45.lt b hb).2)
              replace h41 := h41.nw u92
              replace h43 := h43.nw u92
              replace h45 := h45.nw u92
              replace C := C.new u92
              obtain ⟨y94, h95, h84⟩ := bnd_some h84
              have h101 := h45
              refine sc (dc_append el49 (by decide) h101 h90.src rfl rfl h95 C.up.size C.sb fun v96 w97 h98 u99 h100 => ?_)
              replace h41 := h41.wr u99 h101.not
              replace h43 := h43.wr u99 h101.not
              replace C := C.ow h101 u99
              refine sv (asv v96 rfl) (W.e ?_)
              obtain rfl := osi h84
              exact ⟨_, _, C, ⟨rfl, rfl, rfl, rfl, rfl, rfl, trivial⟩, h41, h43, h98⟩
            · refine cw_f rfl b87 (cw_skip ?_)
              obtain rfl := osi h84
              exact ⟨_, _, C, ⟨rfl, rfl, rfl, rfl, rfl, rfl, trivial⟩, h41, h43, h45⟩
          · rintro ρ w103 ⟨S102, v104, C, h106, h41, h43, h105⟩
            refine h106.cw fun ρ => ?_
            clear h106
            refine cw_region (sv (mvv v40 rfl) ?_)
            obtain ⟨y107, h108, h51⟩ := bnd_some h51
            obtain ⟨v109, h110, h111⟩ := rv_fromA (P := Tryz.prog) el49 h41 h108
            refine sv (h111 rfl rfl) (sv (asv v109 rfl) (W.e ?_))
            obtain rfl := osi h51
            exact ⟨_, rfl, ⟨_, _, _, _, C, ⟨rfl, rfl, rfl, rfl, rfl, rfl, trivial⟩, h110, h43, h105⟩⟩
        · refine cw_f rfl b80 ?_
          refine cw_seq fun K112 k113 => ?_
          refine cw_region (sv (mvv (.int .i64 y74) rfl) (sv (mvv (.int .i64 y76) rfl) (sv (rv_gtr rfl rfl) (sv (asv (.bool (decide (y76 < y74))) rfl) (W.e (k113 _ _ ?_))))))
          rcases bif_some h51 with ⟨b114, h51⟩ | ⟨b114, h51⟩
          · refine cw_t rfl b114 ?_
            obtain ⟨o115, h118, h51⟩ := bnd_some h51
            refine cw_seq' (fun ρ w1 => ∃ S1 v138, Cx No S w S1 w1 ∧ Has ρ [(0, v40), (1, v42), (2, .bool a2), (3, .bool a3), (4, .bool a4), (12, v138)] ∧ Sl (kSl (kI .i64)) S1 w1 v40 x47 ∧ Sl (kSl (kI .i64)) S1 w1 v42 x48 ∧ Ow (kI .i64) 3 S1 w.heap.size w1 v138 o115) ?_ ?_
            · refine cw_seq fun K119 k120 => ?_
              refine cw_region (sv (mvv (.bool a4) rfl) (W.e (k120 _ _ ?_)))
              rcases bif_some h118 with ⟨b121, h118⟩ | ⟨b121, h118⟩
              · refine cw_t rfl b121 (cw_region (sv (mvv v44 rfl) (sv (mvv (.int .i64 y76) rfl) ?_)))
                refine sc (dc_lit (vs := [.int .i64 y76]) (xs := ([y76] : List Int)) (base := w.heap.size) el49 rfl rfl (.cons (sl_sc.2 rfl) (.nil)) (Nat.le_of_ble_eq_true rfl) C.up.size C.sb fun v122 w123 h124 h125 u126 => ?_)
                have p127 := ap_fresh h125 (fun b hb => (h45.lt b hb).2)
                replace h41 := h41.nw u126
                replace h43 := h43.nw u126
                replace h45 := h45.nw u126
                replace C := C.new u126
                obtain ⟨y128, h129, h118⟩ := bnd_some h118
                have h135 := h45
                refine sc (dc_append el49 (by decide) h135 h124.src rfl rfl h129 C.up.size C.sb fun v130 w131 h132 u133 h134 => ?_)
                replace h41 := h41.wr u133 h135.not
                replace h43 := h43.wr u133 h135.not
                replace C := C.ow h135 u133
                refine sv (asv v130 rfl) (W.e ?_)
                obtain rfl := osi h118
                exact ⟨_, _, C, ⟨rfl, rfl, rfl, rfl, rfl, rfl, trivial⟩, h41, h43, h132⟩
              · refine cw_f rfl b121 (cw_skip ?_)
                obtain rfl := osi h118
                exact ⟨_, _, C, ⟨rfl, rfl, rfl, rfl, rfl, rfl, trivial⟩, h41, h43, h45⟩
            · rintro ρ w137 ⟨S136, v138, C, h140, h41, h43, h139⟩
              refine h140.cw fun ρ => ?_
              clear h140
              refine cw_region (sv (mvv v42 rfl) ?_)
              obtain ⟨y141, h142, h51⟩ := bnd_some h51
              obtain ⟨v143, h144, h145⟩ := rv_fromA (P := Tryz.prog) el49 h43 h142
              refine sv (h145 rfl rfl) (sv (asv v143 rfl) (W.e ?_))
              obtain rfl := osi h51
              exact ⟨_, rfl, ⟨_, _, _, _, C, ⟨rfl, rfl, rfl, rfl, rfl, rfl, trivial⟩, h41, h144, h139⟩⟩
          · refine cw_f rfl b114 ?_
            obtain ⟨o146, h149, h51⟩ := bnd_some h51
            refine cw_seq' (fun ρ w1 => ∃ S1 v169, Cx No S w S1 w1 ∧ Has ρ [(0, v40), (1, v42), (2, .bool a2), (3, .bool a3), (4, .bool a4), (12, v169)] ∧ Sl (kSl (kI .i64)) S1 w1 v40 x47 ∧ Sl (kSl (kI .i64)) S1 w1 v42 x48 ∧ Ow (kI .i64) 3 S1 w.heap.size w1 v169 o146) ?_ ?_
            · refine cw_seq fun K150 k151 => ?_
              refine cw_region (sv (mvv (.bool a3) rfl) (W.e (k151 _ _ ?_)))
              rcases bif_some h149 with ⟨b152, h149⟩ | ⟨b152, h149⟩
              · refine cw_t rfl b152 (cw_region (sv (mvv v44 rfl) (sv (mvv (.int .i64 y74) rfl) ?_)))
                refine sc (dc_lit (vs := [.int .i64 y74]) (xs := ([y74] : List Int)) (base := w.heap.size) el49 rfl rfl (.cons (sl_sc.2 rfl) (.nil)) (Nat.le_of_ble_eq_true rfl) C.up.size C.sb fun v153 w154 h155 h156 u157 => ?_)
                have p158 := ap_fresh h156 (fun b hb => (h45.lt b hb).2)
                replace h41 := h41.nw u157
                replace h43 := h43.nw u157
                replace h45 := h45.nw u157
                replace C := C.new u157
                obtain ⟨y159, h160, h149⟩ := bnd_some h149
                have h166 := h45
                refine sc (dc_append el49 (by decide) h166 h155.src rfl rfl h160 C.up.size C.sb fun v161 w162 h163 u164 h165 => ?_)
                replace h41 := h41.wr u164 h166.not
                replace h43 := h43.wr u164 h166.not
                replace C := C.ow h166 u164
                refine sv (asv v161 rfl) (W.e ?_)
                obtain rfl := osi h149
                exact ⟨_, _, C, ⟨rfl, rfl, rfl, rfl, rfl, rfl, trivial⟩, h41, h43, h163⟩
              · refine cw_f rfl b152 (cw_skip ?_)
                obtain rfl := osi h149
                exact ⟨_, _, C, ⟨rfl, rfl, rfl, rfl, rfl, rfl, trivial⟩, h41, h43, h45⟩
            · rintro ρ w168 ⟨S167, v169, C, h171, h41, h43, h170⟩
              refine h171.cw fun ρ => ?_
              clear h171
              refine cw_drawU (.one 0 true (.one 1 true (.one 2 true (.one 3 true (.one 4 true (.one 5 true .done)))))) [] [] (fun c => No) fol (by kernel_rfl) fun w172 u173 => ?_
              replace h41 := h41.nw u173
              replace h43 := h43.nw u173
              replace h170 := h170.nw u173
              replace C := C.new u173
              refine mtv rfl rfl (mvv v40 rfl) ?_
              obtain ⟨y174, h175, h51⟩ := bnd_some h51
              obtain ⟨v176, h177, h178⟩ := rv_fromA (P := Tryz.prog) el49 h41 h175
              refine mtv rfl rfl (h178 rfl rfl) (mtv rfl rfl (mvv v42 rfl) ?_)
              obtain ⟨y179, h180, h51⟩ := bnd_some h51
              obtain ⟨v181, h182, h183⟩ := rv_fromA (P := Tryz.prog) el49 h43 h180
              refine mtv rfl rfl (h183 rfl rfl) (mtv rfl rfl (asv v176 rfl) (mtv rfl rfl (asv v181 rfl) (MT.e ?_)))
              obtain rfl := osi h51
              exact ⟨_, rfl, ⟨_, _, _, _, C, ⟨rfl, rfl, rfl, rfl, rfl, rfl, trivial⟩, h177, h182, h170⟩⟩
    · rintro ρ w185 ⟨S184, v186, v188, v190, C, h192, h187, h189, h191⟩
      refine h192.cw fun ρ => ?_
      clear h192
      obtain ⟨o193, h196, h⟩ := bnd_some h
      refine cw_seq' (fun ρ w1 => ∃ S1 v210, Cx No S w S1 w1 ∧ Has ρ [(1, v188), (4, .bool a4), (12, v210)] ∧ Sl (kSl (kI .i64)) S1 w1 v188 o33.2.1 ∧ Ow (kI .i64) 3 S1 w.heap.size w1 v210 o193) ?_ ?_
      · refine cw_seq fun K197 k198 => ?_
        refine cw_region (sv (mvv (.bool a2) rfl) (W.e (k198 _ _ ?_)))
        rcases bif_some h196 with ⟨b199, h196⟩ | ⟨b199, h196⟩
        · refine cw_t rfl b199 (cw_region (sv (mvv v190 rfl) (sv (mvv v186 rfl) ?_)))
          obtain ⟨y200, h201, h196⟩ := bnd_some h196
          have h207 := h191
          refine sc (dc_append el49 (by decide) h207 (h187.src fun _ h => h) rfl rfl h201 C.up.size C.sb fun v202 w203 h204 u205 h206 => ?_)
          replace h189 := h189.wr u205 h207.not
          replace C := C.ow h207 u205
          refine sv (asv v202 rfl) (W.e ?_)
          obtain rfl := osi h196
          exact ⟨_, _, C, ⟨rfl, rfl, rfl, trivial⟩, h189, h204⟩
        · refine cw_f rfl b199 (cw_skip ?_)
          obtain rfl := osi h196
          exact ⟨_, _, C, ⟨rfl, rfl, rfl, trivial⟩, h189, h191⟩
      · rintro ρ w209 ⟨S208, v210, C, h212, h189, h211⟩
        refine h212.cw fun ρ => ?_
        clear h212
        obtain ⟨o213, h216, h⟩ := bnd_some h
        refine cw_seq' (fun ρ w1 => ∃ S1 v230, Cx No S w S1 w1 ∧ Has ρ [(12, v230)] ∧ Ow (kI .i64) 3 S1 w.heap.size w1 v230 o213) ?_ ?_
        · refine cw_seq fun K217 k218 => ?_
          refine cw_region (sv (mvv (.bool a4) rfl) (W.e (k218 _ _ ?_)))
          rcases bif_some h216 with ⟨b219, h216⟩ | ⟨b219, h216⟩
          · refine cw_t rfl b219 (cw_region (sv (mvv v210 rfl) (sv (mvv v188 rfl) ?_)))
            obtain ⟨y220, h221, h216⟩ := bnd_some h216
            have h227 := h211
            refine sc (dc_append el49 (by decide) h227 (h189.src fun _ h => h) rfl rfl h221 C.up.size C.sb fun v222 w223 h224 u225 h226 => ?_)
            replace C := C.ow h227 u225
            refine sv (asv v222 rfl) (W.e ?_)
            obtain rfl := osi h216
            exact ⟨_, _, C, ⟨rfl, trivial⟩, h224⟩
          · refine cw_f rfl b219 (cw_skip ?_)
            obtain rfl := osi h216
            exact ⟨_, _, C, ⟨rfl, trivial⟩, h211⟩
        · rintro ρ w229 ⟨S228, v230, C, h232, h231⟩
          refine h232.cw fun ρ => ?_
          clear h232
          refine cw_seq fun K233 k234 => ?_
          refine cw_region (sv (mvv v230 rfl) ?_)
          replace C := C.sealO h231
          replace h231 := h231.sealed
          obtain ⟨y235, h236, h⟩ := bnd_some h
          refine sc (dc_call (vs := [v230]) can123 rfl ?_)
          refine (post_told_w C.sb h231 h236).mono ?_
          rintro _ w237 ⟨S238, v240, rfl, c239, h241⟩
          refine ⟨_, rfl, ?_⟩
          replace C := C.trans c239
          refine sv (rv_extract rfl rfl) (sv (rv_extract rfl rfl) (sv (asv v240 rfl) (sv (asv (.int .i64 y235.2) rfl) (W.e (k234 _ _ (cw_ret ?_))))))
          obtain rfl := osi h
          exact ⟨_, rfl, _, _, rfl, C, h241⟩

noncomputable def post_Or (a0 : List Int) (a1 : List Int) : Option ((List Int) × Int) :=
  ((post_merge a0 a1 true true true).bind fun y5 => some (y5.1, y5.2))
theorem post_Or_w {S : Nat → Prop} {w : World} {a0 : List Int} {a1 : List Int} {v0 v1 : Value} {r : (List Int) × Int} (hS : Sb S w) (h0 : Sl (kSl (kI .i64)) S w v0 a0) (h1 : Sl (kSl (kI .i64)) S w v1 a1) (h : post_Or a0 a1 = some r) :
    Calls Tryz.prog 93 (List.toArray [v0, v1]) w fun e w1 => ∃ S1 u0, e = .returned (.tuple (List.toArray [u0, .int .i64 r.2])) ∧ Cx No S w S1 w1 ∧ Sl (kSl (kI .i64)) S1 w1 u0 r.1 := by
  refine enter Tryz.func93 rfl (by kernel_rfl) rfl ?_
  have C := Cx.refl (F := No) hS
  unfold post_Or at h
  refine cw_seq fun K1 k2 => ?_
  refine cw_region (sv (asv (.slice none 0 0) rfl) (sv (asv (.int .i64 0) rfl) (W.e (k2 _ _ ?_))))
  refine cw_seq fun K3 k4 => ?_
  refine cw_region (sv (mvv v0 rfl) (sv (mvv v1 rfl) ?_))
  obtain ⟨y5, h6, h⟩ := bnd_some h
  refine sc (dc_call (vs := [v0, v1, .bool true, .bool true, .bool true]) can95 rfl ?_)
  refine (post_merge_w C.sb h0 h1 h6).mono ?_
  rintro _ w7 ⟨S8, v10, rfl, c9, h11⟩
  refine ⟨_, rfl, ?_⟩
  replace C := C.trans c9
  refine sv (rv_extract rfl rfl) (sv (rv_extract rfl rfl) (sv (asv v10 rfl) (sv (asv (.int .i64 y5.2) rfl) (W.e (k4 _ _ (cw_ret ?_))))))
  obtain rfl := osi h
  exact ⟨_, rfl, _, _, rfl, C, h11⟩

noncomputable def post_With (a0 : List Int) (a1 : Int) : Option ((List Int) × Int) :=
  (bif (decide (a1 < (0 : Int))) then some (([] : List Int), (1 : Int)) else ((post_Or a0 ([a1] : List Int)).bind fun y17 => some (y17.1, y17.2)))
theorem post_With_w {S : Nat → Prop} {w : World} {a0 : List Int} {a1 : Int} {v0 : Value} {r : (List Int) × Int} (hS : Sb S w) (h0 : Sl (kSl (kI .i64)) S w v0 a0) (h : post_With a0 a1 = some r) :
    Calls Tryz.prog 71 (List.toArray [v0, .int .i64 a1]) w fun e w1 => ∃ S1 u0, e = .returned (.tuple (List.toArray [u0, .int .i64 r.2])) ∧ Cx No S w S1 w1 ∧ Sl (kSl (kI .i64)) S1 w1 u0 r.1 := by
  refine enter Tryz.func71 rfl (by kernel_rfl) rfl ?_
  have C := Cx.refl (F := No) hS
  unfold post_With at h
  refine cw_seq fun K1 k2 => ?_
  refine cw_region (sv (asv (.slice none 0 0) rfl) (sv (asv (.int .i64 0) rfl) (W.e (k2 _ _ ?_))))
  refine cw_seq fun K3 k4 => ?_
  refine cw_seq fun K5 k6 => ?_
  refine cw_region (sv (mvv (.int .i64 a1) rfl) (sv (rv_lss rfl rfl) (W.e (k6 _ _ ?_))))
  rcases bif_some h with ⟨b7, h⟩ | ⟨b7, h⟩
  · refine cw_t rfl b7 ?_
    refine cw_seq fun K8 k9 => ?_
    refine cw_region (sv (asv (.slice none 0 0) rfl) (sv (asv (.int .i64 1) rfl) (W.e (k9 _ _ (cw_ret ?_)))))
    obtain rfl := osi h
    exact ⟨_, rfl, _, _, rfl, C, (sl_nil _ _ _)⟩
  · refine cw_f rfl b7 (cw_skip (k4 _ _ ?_))
    refine cw_seq fun K10 k11 => ?_
    refine cw_region (sv (mvv v0 rfl) (sv (mvv (.int .i64 a1) rfl) ?_))
    refine sc (dc_lit (vs := [.int .i64 a1]) (xs := ([a1] : List Int)) (base := w.heap.size) el49 rfl rfl (.cons (sl_sc.2 rfl) (.nil)) (Nat.le_of_ble_eq_true rfl) C.up.size C.sb fun v12 w13 h14 h15 u16 => ?_)
    replace h0 := h0.nw u16
    replace C := C.new u16
    replace h0 := h0.or (T := Blk v12)
    replace C := C.sealO h14
    replace h14 := h14.sealed
    obtain ⟨y17, h18, h⟩ := bnd_some h
    refine sc (dc_call (vs := [v0, v12]) can93 rfl ?_)
    refine (post_Or_w C.sb h0 h14 h18).mono ?_
    rintro _ w19 ⟨S20, v22, rfl, c21, h23⟩
    refine ⟨_, rfl, ?_⟩
    replace C := C.trans c21
    refine sv (rv_extract rfl rfl) (sv (rv_extract rfl rfl) (sv (asv v22 rfl) (sv (asv (.int .i64 y17.2) rfl) (W.e (k11 _ _ (cw_ret ?_))))))
    obtain rfl := osi h
    exact ⟨_, rfl, _, _, rfl, C, h23⟩

noncomputable def index_Index_put.b1 (a1 : Int) (a2 : List api_Label) (x54 : Int) (x55 : index_Index) : Option ((Int × index_Index) ⊕ (index_Index)) :=
  (bif (decide (x54 < (a2.length : Int))) then ((at_ a2 x54).bind fun y67 => (pur y67 fun y78 => ((post_With ((mget y78 x55.posts).getD ([] : List Int)) a1).bind fun y110 => (pur ({ x55 with posts := (mput y78 y110.1 x55.posts) } : index_Index) fun y121 => ((post_With ((mget y78.Name y121.names).getD ([] : List Int)) a1).bind fun y146 => (pur ({ y121 with names := (mput y78.Name y146.1 y121.names) } : index_Index) fun y157 => (pur (IntKind.i64.wrap (x54 + (1 : Int))) fun y166 => some (.inl (y166, y157))))))))) else some (.inr x55))
noncomputable def index_Index_put (a0 : index_Index) (a1 : Int) (a2 : List api_Label) (a3 : ByteArray) : Option index_Index :=
  (pur ({ a0 with series := (mput a1 a2 a0.series) } : index_Index) fun y22 => (pur ({ y22 with ids := (mput a3 a1 y22.ids) } : index_Index) fun y37 => (iter (fun s : Int × index_Index => index_Index_put.b1 a1 a2 s.1 s.2) ((0 : Int), y37))))
theorem index_Index_put_w {S : Nat → Prop} {w : World} {a0 : index_Index} {a1 : Int} {a2 : List api_Label} {a3 : ByteArray} {v0 v2 : Value} {cs0 : List Value} {fp0 : List Nat} {r : index_Index} (hS : Sb S w) (h0 : Ob 61 (index_Index.fs a0) S w v0 cs0 fp0) (h2 : Sl (kSl api_Label.k) S w v2 a2) (h : index_Index_put a0 a1 a2 a3 = some r) :
    Calls Tryz.prog 44 (List.toArray [v0, .int .i64 a1, v2, .string a3]) w fun e w1 => ∃ S1 us_0 up_0, e = .returned (.tuple (List.toArray [])) ∧ Cx (fun b => b ∈ fp0) S w S1 w1 ∧ Ob 61 (index_Index.fs r) S1 w1 v0 us_0 up_0 ∧ (∀ b, b ∈ up_0 → b ∈ fp0 ∨ w.heap.size ≤ b) := by
  refine enter Tryz.func44 rfl (by kernel_rfl) rfl ?_
  have C := Cx.refl (F := (fun b => b ∈ fp0)) hS
  unfold index_Index_put at h
  have hs0 : ∀ b, b ∈ fp0 → b ∈ fp0 ∨ w.heap.size ≤ b := fun b hb => .inl hb
  have hl0 : ∀ b ∈ fp0, b < w.heap.size := fun b hb => (h0.lt b hb).1
  refine cw_seq fun K1 k2 => ?_
  obtain ⟨c5, h6⟩ := h0.at (i := 0) rfl
  obtain ⟨c7, h8⟩ := h0.at (i := 1) rfl
  obtain ⟨c9, h10⟩ := h0.at (i := 2) rfl
  obtain ⟨c11, h12⟩ := h0.at (i := 3) rfl
  refine cw_drawU (.one 0 true (.one 1 true (.one 2 true (.one 3 true (.one 4 true (.one 5 true (.one 6 true (.one 7 true (.one 8 true (.one 9 true (.one 10 true (.one 11 true (.one 12 false (.one 13 true (.one 14 false (.one 15 false (.one 16 true (.one 17 false .done)))))))))))))))))) [(3, [10]), (8, [10])] [(12, []), (14, []), (15, []), (17, [])] (fun c => bif Nat.beq c 10 then (One (pb v0)) else No) fol (by kernel_rfl) fun w3 u4 => ?_
  replace h0 := h0.nw u4
  replace h2 := h2.nw u4
  replace C := C.new u4
  have h0d := h0
  have h2d := h2
  have m13 := Sm.refl (One (pb v0)) w3
  refine mtv rfl rfl (mvv v0 rfl) (mtv rfl rfl (rv_nilcheck rfl h0.ptr) (mtv rfl rfl (rv_fieldAddr (b := pb v0) (o := 0) st61 rfl h0.ptr) (mtr rfl rfl ⟨m13, trivial⟩ (fun w' hq => rw_ofieldU (i := 0) (c := c5) h0 hq.1 ag56 h6 rfl) (mtv rfl rfl (mvv (.int .i64 a1) rfl) (mtv rfl rfl (mvv v0 rfl) (mtv rfl rfl (rv_nilcheck rfl h0.ptr) (mtv rfl rfl (rv_fieldAddr (b := pb v0) (o := 0) st61 rfl h0.ptr) (mtr rfl rfl ⟨m13, trivial⟩ (fun w' hq => rw_ofieldU (i := 1) (c := c7) h0 hq.1 ag57 h8 rfl) (mtv rfl rfl (mvv (.string a3) rfl) (mtv rfl rfl (mvv v2 rfl) (mtv rfl rfl (mvv (.int .i64 a1) rfl) ?_)))))))))))
  have h19 : ∀ b, b ∈ fp0 → ¬ S b := fun b hb => (h0.lt b hb).2
  refine mtc rfl rfl (dc_oment (a := a1) h0 (i := 0) rfl h6 Tryz.underlying56 zv31 rfl rfl fun z14 n15 w16 u17 h18 => ?_)
  have c20 := Cx.ofUp C.sb u17
  replace h2 := h2.cf c20 h19
  replace C := C.ofc c20 hs0
  have z21 := (u17).size
  refine ⟨trivial, ?_⟩
  refine mtv rfl rfl (rv_extract rfl rfl) ?_
  obtain ⟨y22, h23, h⟩ := pur_some h
  refine mtc rfl rfl (h18 rfl rfl rfl h2 fun w24 h25 u26 => ?_)
  replace h25 : Ob 61 (index_Index.fs ({ a0 with series := (mput a1 a2 a0.series) } : index_Index)) S w24 v0 cs0 fp0 := h25
  rw [h23] at h25
  have c27 := Cx.ofUp C.sb u26
  replace h2 := h2.cf c27 h19
  replace C := C.ofc c27 hs0
  have z28 := (u26).size
  refine ⟨trivial, ?_⟩
  have h34 : ∀ b, b ∈ fp0 → ¬ S b := fun b hb => (h25.lt b hb).2
  refine mtc rfl rfl (dc_oment (a := a3) h25 (i := 1) rfl h8 Tryz.underlying57 zv3 rfl rfl fun z29 n30 w31 u32 h33 => ?_)
  have c35 := Cx.ofUp C.sb u32
  replace h2 := h2.cf c35 h34
  replace C := C.ofc c35 hs0
  have z36 := (u32).size
  refine ⟨trivial, ?_⟩
  refine mtv rfl rfl (rv_extract rfl rfl) ?_
  obtain ⟨y37, h38, h⟩ := pur_some h
  refine mtc rfl rfl (h33 rfl rfl rfl (sl_sc.2 rfl) fun w39 h40 u41 => ?_)
  replace h40 : Ob 61 (index_Index.fs ({ y22 with ids := (mput a3 a1 y22.ids) } : index_Index)) S w39 v0 cs0 fp0 := h40
  rw [h38] at h40
  have c42 := Cx.ofUp C.sb u41
  replace h2 := h2.cf c42 h34
  replace C := C.ofc c42 hs0
  have z43 := (u41).size
  refine ⟨trivial, ?_⟩
  refine MT.e (k2 _ _ ?_)
  refine cw_seq fun K44 k45 => ?_
  refine cw_region (sv (mvv v2 rfl) (sv (rv_lenS el31 h2 rfl) (sv (mvv (.int .i64 0) rfl) (W.e (k45 _ _ (cw_block ?_))))))
  refine cw_iter h (fun s ρ w1 => ∃ S1 fp50 cs52, Cx (fun b => b ∈ fp0) S w S1 w1 ∧ Has ρ [(0, v0), (1, .int .i64 a1), (26, v2), (27, .int .i64 (a2.length : Int)), (28, .int .i64 s.1)] ∧ Sl (kSl api_Label.k) S1 w1 v2 a2 ∧ Ob 61 (index_Index.fs s.2) S1 w1 v0 cs52 fp50 ∧ (∀ b, b ∈ fp50 → b ∈ fp0 ∨ w.heap.size ≤ b)) ⟨_, _, _, C, ⟨rfl, rfl, rfl, rfl, rfl, trivial⟩, h2, h40, hs0⟩ ?_
  rintro ⟨x54, x55⟩ q46 ρ w48 ⟨S47, fp50, cs52, C, h53, h2, h49, h51⟩ h57 h56
  refine h53.cw fun ρ => ?_
  clear h53
  replace h57 : index_Index_put.b1 a1 a2 x54 x55 = some q46 := h57
  unfold index_Index_put.b1 at h57
  refine cw_seq fun K58 k59 => ?_
  refine cw_region (sv (rv_lss rfl rfl) (W.e (k59 _ _ ?_)))
  refine cw_seq fun K60 k61 => ?_
  rcases bif_some h57 with ⟨b62, h57⟩ | ⟨b62, h57⟩
  · refine cw_t rfl b62 (cw_skip (k61 _ _ ?_))
    refine cw_seq fun K63 k64 => ?_
    refine cw_block ?_
    refine cw_seq fun K65 k66 => ?_
    refine cw_region ?_
    obtain ⟨y67, h68, h57⟩ := bnd_some h57
    refine sv (rv_index el31 h2 rfl rfl h68) ?_
    obtain ⟨v69, h70, h71⟩ := rw_loadA (P := Tryz.prog) el31 h2 h68
    obtain rfl := api_Label.o.1 h70
    refine sr (h71 _ (Sm.refl _ _) rfl) ?_
    refine sc (dc_allocO (x0 := (api_Label.mk ByteArray.empty ByteArray.empty)) (base := w.heap.size) el31 zr46 (fun _ => api_Label.r.2 rfl) C.up.size C.sb fun b72 w73 h74 h75 u76 => ?_)
    have p77 := ap_fresh h75 (fun b hb => (h49.lt b hb).1)
    replace h49 := h49.nw u76
    replace h2 := h2.nw u76
    replace C := C.new u76
    obtain ⟨y78, h79, h57⟩ := pur_some h57
    have h83 := h74
    refine sc (dc_storeO el31 h83 (show at_ [(api_Label.mk ByteArray.empty ByteArray.empty)] (0 : Int) = some (api_Label.mk ByteArray.empty ByteArray.empty) from rfl) rfl rfl (((api_Label.o (x := y67)).2 rfl)) fun w80 h81 u82 => ?_)
    replace h81 : Ow api_Label.k 46 S47 w.heap.size w80 (.slice (some ⟨b72, 0, none⟩) 1 1) [y67] := h81
    rw [h79] at h81
    replace h49 := h49.wr u82 h83.not (ap_symm p77)
    replace h2 := h2.wr u82 h83.not
    replace C := C.ow h83 u82
    refine W.e (k66 _ _ ?_)
    refine cw_seq fun K84 k85 => ?_
    obtain ⟨c88, h89⟩ := h49.at (i := 0) rfl
    obtain ⟨c90, h91⟩ := h49.at (i := 1) rfl
    obtain ⟨c92, h93⟩ := h49.at (i := 2) rfl
    obtain ⟨c94, h95⟩ := h49.at (i := 3) rfl
    refine cw_drawU (.one 0 true (.one 1 true (.one 2 true (.one 3 true (.one 4 true (.one 5 true (.one 6 true (.one 7 true (.one 8 true (.one 9 true (.one 10 true (.one 11 true (.one 12 false (.one 13 true (.one 14 true (.one 15 true (.one 16 false .done))))))))))))))))) [(3, [10]), (4, [1000]), (8, [10]), (9, [1000]), (10, [102])] [(12, [10, 1000]), (16, [])] (fun c => bif Nat.beq c 10 then (One (pb v0)) else bif Nat.beq c 102 then (One (mb c92)) else bif Nat.beq c 1000 then (Or S47 (Blk (.slice (some ⟨b72, 0, none⟩) 1 1))) else No) fol (by kernel_rfl) fun w86 u87 => ?_
    replace h49 := h49.nw u87
    replace h81 := h81.nw u87
    replace h2 := h2.nw u87
    replace C := C.new u87
    have h49d := h49
    have h81d := h81
    have h2d := h2
    have m96 := Sm.refl (One (pb v0)) w86
    have m97 := Sm.refl (One (mb c92)) w86
    have m98 := Sm.refl (Or S47 (Blk (.slice (some ⟨b72, 0, none⟩) 1 1))) w86
    refine mtv rfl rfl (mvv v0 rfl) (mtv rfl rfl (rv_nilcheck rfl h49.ptr) (mtv rfl rfl (rv_fieldAddr (b := pb v0) (o := 0) st61 rfl h49.ptr) (mtr rfl rfl ⟨m96, trivial⟩ (fun w' hq => rw_ofieldU (i := 2) (c := c92) h49 hq.1 ag58 h93 rfl) ?_)))
    obtain ⟨v99, h100, h101⟩ := rw_loadO (P := Tryz.prog) el31 h81 (show at_ [y78] (0 : Int) = some y78 from rfl)
    obtain rfl := api_Label.o.1 h100
    refine mtr rfl rfl ⟨m98, trivial⟩ (fun w' hq => h101 w' hq.1 rfl) (mtv rfl rfl (mvv v0 rfl) (mtv rfl rfl (rv_nilcheck rfl h49.ptr) (mtv rfl rfl (rv_fieldAddr (b := pb v0) (o := 0) st61 rfl h49.ptr) (mtr rfl rfl ⟨m96, trivial⟩ (fun w' hq => rw_ofieldU (i := 2) (c := c92) h49 hq.1 ag58 h93 rfl) ?_))))
    obtain ⟨v102, h103, h104⟩ := rw_loadO (P := Tryz.prog) el31 h81 (show at_ [y78] (0 : Int) = some y78 from rfl)
    obtain rfl := api_Label.o.1 h103
    refine mtr rfl rfl ⟨m98, trivial⟩ (fun w' hq => h104 w' hq.1 rfl) ?_
    obtain ⟨_, h105, h106⟩ := Ob.rep h49 (i := 2) rfl h93
    obtain ⟨v107, h108, h109⟩ := rep_look (P := Tryz.prog) (tm := 58) (te := 49) (y0 := ([] : List Int)) h105 Tryz.underlying58 zv49 (sl_nil _ _ _) y78
    refine mtr rfl rfl ⟨m97, trivial⟩ (fun w' hq => (h109 hq.1 rfl rfl).1) (mtv rfl rfl (mvv (.int .i64 a1) rfl) ?_)
    obtain ⟨y110, h111, h57⟩ := bnd_some h57
    refine mtc rfl rfl (dc_call (vs := [v107, .int .i64 a1]) can71 rfl ?_)
    refine (post_With_w C.sb h108 h111).mono ?_
    rintro _ w112 ⟨S113, v115, rfl, c114, h116⟩
    refine ⟨_, rfl, ?_⟩
    replace h49 := h49.cx c114
    replace h81 := h81.cx c114
    replace h2 := h2.cx c114
    replace C := C.trans c114
    have z117 := (c114.up).size
    have m118 := m96.nx c114.up (by omega)
    have m119 := m97.nx c114.up (by omega)
    have m120 := m98.nx c114.up (by omega)
    refine ⟨⟨m118, m120, trivial⟩, ?_⟩
    refine mtv rfl rfl (mvv (.tuple (List.toArray [v115, .int .i64 y110.2])) rfl) (mtv rfl rfl (rv_extract rfl rfl) (mtv rfl rfl (rv_extract rfl rfl) ?_))
    obtain ⟨y121, h122, h57⟩ := pur_some h57
    have h127 : ∀ b, b ∈ fp50 → ¬ S113 b := fun b hb => (h49.lt b hb).2
    refine mtc rfl rfl (dc_omset (a := y78) h49 (i := 2) rfl h93 Tryz.underlying58 rfl rfl rfl h116 fun w123 h124 u125 => ?_)
    replace h124 : Ob 61 (index_Index.fs ({ x55 with posts := (mput y78 y110.1 x55.posts) } : index_Index)) S113 w123 v0 cs52 fp50 := h124
    rw [h122] at h124
    have c126 := Cx.ofUp C.sb u125
    replace h81 := h81.cf c126 h127 p77
    replace h2 := h2.cf c126 h127
    replace C := C.ofc c126 h51
    have z128 := (u125).size
    have m129 := m120.wrC u125 (by omega) (fun b hb hs => hs.elim ((fun b hb hs => h127 b hb ((fun b h => c114.ge.le b h) b hs)) b hb) ((ap_symm p77) b hb))
    refine ⟨trivial, ?_⟩
    refine MT.e (k85 _ _ ?_)
    refine cw_drawU (.one 0 true (.one 1 true (.one 2 true (.one 3 true (.one 4 true (.one 5 true (.one 6 true (.one 7 true (.one 8 true (.one 9 true (.one 10 true (.one 11 true (.one 12 true (.one 13 true (.one 14 false (.one 15 true (.one 16 true (.one 17 true (.one 18 false .done))))))))))))))))))) [(3, [10]), (5, [1000]), (9, [10]), (11, [1000]), (12, [103])] [(14, [10, 1000]), (18, [])] (fun c => bif Nat.beq c 10 then (One (pb v0)) else bif Nat.beq c 103 then (One (mb c94)) else bif Nat.beq c 1000 then (Or S113 (Blk (.slice (some ⟨b72, 0, none⟩) 1 1))) else No) fol (by kernel_rfl) fun w130 u131 => ?_
    replace h124 := h124.nw u131
    replace h81 := h81.nw u131
    replace h2 := h2.nw u131
    replace C := C.new u131
    have h124d := h124
    have h81d := h81
    have h2d := h2
    have m132 := Sm.refl (One (pb v0)) w130
    have m133 := Sm.refl (One (mb c94)) w130
    have m134 := Sm.refl (Or S113 (Blk (.slice (some ⟨b72, 0, none⟩) 1 1))) w130
    refine mtv rfl rfl (mvv v0 rfl) (mtv rfl rfl (rv_nilcheck rfl h124.ptr) (mtv rfl rfl (rv_fieldAddr (b := pb v0) (o := 0) st61 rfl h124.ptr) (mtr rfl rfl ⟨m132, trivial⟩ (fun w' hq => rw_ofieldU (i := 3) (c := c94) h124 hq.1 ag59 h95 rfl) (mtv rfl rfl (rv_fieldAddr st46 rfl rfl) ?_))))
    obtain ⟨cs135, h136, h137⟩ := Ow.cellsO h81 (show at_ [y78] (0 : Int) = some y78 from rfl)
    obtain rfl := api_Label.r.1 h136
    refine mtr rfl rfl ⟨m134, trivial⟩ (fun w' hq => rw_el1 (off := 0) ag9 (h137 w' hq.1) rfl rfl) (mtv rfl rfl (mvv v0 rfl) (mtv rfl rfl (rv_nilcheck rfl h124.ptr) (mtv rfl rfl (rv_fieldAddr (b := pb v0) (o := 0) st61 rfl h124.ptr) (mtr rfl rfl ⟨m132, trivial⟩ (fun w' hq => rw_ofieldU (i := 3) (c := c94) h124 hq.1 ag59 h95 rfl) (mtv rfl rfl (rv_fieldAddr st46 rfl rfl) ?_)))))
    obtain ⟨cs138, h139, h140⟩ := Ow.cellsO h81 (show at_ [y78] (0 : Int) = some y78 from rfl)
    obtain rfl := api_Label.r.1 h139
    refine mtr rfl rfl ⟨m134, trivial⟩ (fun w' hq => rw_el1 (off := 0) ag9 (h140 w' hq.1) rfl rfl) ?_
    obtain ⟨_, h141, h142⟩ := Ob.rep h124 (i := 3) rfl h95
    obtain ⟨v143, h144, h145⟩ := rep_look (P := Tryz.prog) (tm := 59) (te := 49) (y0 := ([] : List Int)) h141 Tryz.underlying59 zv49 (sl_nil _ _ _) y78.Name
    refine mtr rfl rfl ⟨m133, trivial⟩ (fun w' hq => (h145 hq.1 rfl rfl).1) (mtv rfl rfl (mvv (.int .i64 a1) rfl) ?_)
    obtain ⟨y146, h147, h57⟩ := bnd_some h57
    refine mtc rfl rfl (dc_call (vs := [v143, .int .i64 a1]) can71 rfl ?_)
    refine (post_With_w C.sb h144 h147).mono ?_
    rintro _ w148 ⟨S149, v151, rfl, c150, h152⟩
    refine ⟨_, rfl, ?_⟩
    replace h124 := h124.cx c150
    replace h2 := h2.cx c150
    replace C := C.trans c150
    have z153 := (c150.up).size
    have m154 := m132.nx c150.up (by omega)
    have m155 := m133.nx c150.up (by omega)
    have m156 := m134.nx c150.up (by omega)
    refine ⟨⟨m154, m156, trivial⟩, ?_⟩
    refine mtv rfl rfl (mvv (.tuple (List.toArray [v151, .int .i64 y146.2])) rfl) (mtv rfl rfl (rv_extract rfl rfl) (mtv rfl rfl (rv_extract rfl rfl) ?_))
    obtain ⟨y157, h158, h57⟩ := pur_some h57
    have h163 : ∀ b, b ∈ fp50 → ¬ S149 b := fun b hb => (h124.lt b hb).2
    refine mtc rfl rfl (dc_omset (a := y78.Name) h124 (i := 3) rfl h95 Tryz.underlying59 rfl rfl rfl h152 fun w159 h160 u161 => ?_)
    replace h160 : Ob 61 (index_Index.fs ({ y121 with names := (mput y78.Name y146.1 y121.names) } : index_Index)) S149 w159 v0 cs52 fp50 := h160
    rw [h158] at h160
    have c162 := Cx.ofUp C.sb u161
    replace h2 := h2.cf c162 h163
    replace C := C.ofc c162 h51
    have z164 := (u161).size
    have m165 := m156.wrC u161 (by omega) (fun b hb hs => hs.elim ((fun b hb hs => h163 b hb ((fun b h => c150.ge.le b h) b hs)) b hb) ((ap_symm p77) b hb))
    refine ⟨trivial, ?_⟩
    refine MT.e (k64 _ _ (cw_region ?_))
    obtain ⟨y166, h167, h57⟩ := pur_some h57
    refine sv (rv_add rfl rfl h167) (sv (mvv (.int .i64 y166) rfl) (W.e ?_))
    obtain rfl := osi h57
    exact ⟨_, rfl, ⟨_, _, _, C, ⟨rfl, rfl, rfl, rfl, rfl, trivial⟩, h2, h160, h51⟩⟩
  · refine cw_f rfl b62 (cw_exit ?_)
    obtain rfl := osi h57
    have h168 := congrArg some h56
    obtain rfl := osi h168
    exact ⟨_, rfl, _, _, _, rfl, C, h49, h51⟩

noncomputable def index_Index_Add (a0 : Option index_Index) (a1 : List api_Label) : Option (Int × Int × (Option index_Index)) :=
  (bif a0.isNone then some ((0 : Int), (2 : Int), a0) else ((index_key a1).bind fun y12 => (bif (y12.2.2 != (0 : Int)) then some ((0 : Int), y12.2.2, a0) else ((a0).bind fun y30 => (bif (mget y12.2.1 y30.ids).isSome then some (((mget y12.2.1 y30.ids).getD (0 : Int)), (0 : Int), some y30) else (((bif (decide ((200 : Int) ≤ (y30.series.length : Int))) then some true else some (decide ((4096 : Int) ≤ y30.given))).bind fun o49 => (bif o49 then some (.inr ((0 : Int), (4 : Int), some y30)) else some (.inl ()))).bind (Sum.elim (fun o45n => (pur (IntKind.i64.wrap (y30.given + (1 : Int))) fun y71 => (pur ({ y30 with given := y71 } : index_Index) fun y73 => ((index_Index_put y73 y30.given y12.1 y12.2.1).bind fun y85 => some (y30.given, (0 : Int), some y85))))) (fun q => some q))))))))
theorem index_Index_Add_w {S : Nat → Prop} {w : World} {a0 : Option index_Index} {a1 : List api_Label} {v0 v1 : Value} {cs0 : List Value} {fp0 : List Nat} {r : Int × Int × (Option index_Index)} (hS : Sb S w) (h0 : Obo 61 index_Index.fs S w v0 a0 cs0 fp0) (h1 : Sl (kSl api_Label.k) S w v1 a1) (h : index_Index_Add a0 a1 = some r) :
    Calls Tryz.prog 14 (List.toArray [v0, v1]) w fun e w1 => ∃ S1 us_0 up_0, e = .returned (.tuple (List.toArray [.int .i64 r.1, .int .i64 r.2.1])) ∧ Cx (fun b => b ∈ fp0) S w S1 w1 ∧ Obo 61 index_Index.fs S1 w1 v0 r.2.2 us_0 up_0 ∧ (∀ b, b ∈ up_0 → b ∈ fp0 ∨ w.heap.size ≤ b) := by
  refine enter Tryz.func14 rfl (by kernel_rfl) rfl ?_
  have C := Cx.refl (F := (fun b => b ∈ fp0)) hS
  unfold index_Index_Add at h
  have hs0 : ∀ b, b ∈ fp0 → b ∈ fp0 ∨ w.heap.size ≤ b := fun b hb => .inl hb
  have hl0 : ∀ b ∈ fp0, b < w.heap.size := fun b hb => (h0.lt b hb).1
  refine cw_seq fun K1 k2 => ?_
  refine cw_region (sv (asv (.int .i64 0) rfl) (sv (asv (.int .i64 0) rfl) (W.e (k2 _ _ ?_))))
  refine cw_seq fun K3 k4 => ?_
  refine cw_seq fun K5 k6 => ?_
  refine cw_region (sv (mvv v0 rfl) (sv (rv_nileq Tryz.underlying24 rfl rfl h0.ne) (W.e (k6 _ _ ?_))))
  rcases bif_some h with ⟨b7, h⟩ | ⟨b7, h⟩
  · refine cw_t rfl b7 ?_
    refine cw_seq fun K8 k9 => ?_
    refine cw_region (sv (asv (.int .i64 0) rfl) (sv (asv (.int .i64 2) rfl) (W.e (k9 _ _ (cw_ret ?_)))))
    obtain rfl := osi h
    exact ⟨_, rfl, _, _, _, rfl, C, h0, hs0⟩
  · refine cw_f rfl b7 (cw_skip (k4 _ _ ?_))
    refine cw_seq fun K10 k11 => ?_
    refine cw_region (sv (mvv v1 rfl) ?_)
    obtain ⟨y12, h13, h⟩ := bnd_some h
    refine sc (dc_call (vs := [v1]) can43 rfl ?_)
    refine (index_key_w C.sb h1 h13).mono ?_
    rintro _ w14 ⟨S15, v17, rfl, c16, h18⟩
    refine ⟨_, rfl, ?_⟩
    replace h0 := h0.cx c16
    replace C := C.trans c16
    refine sv (mvv (.tuple (List.toArray [v17, .string y12.2.1, .int .i64 y12.2.2])) rfl) (sv (rv_extract rfl rfl) (sv (rv_extract rfl rfl) (sv (rv_extract rfl rfl) (sv (asv v17 rfl) (sv (asv (.string y12.2.1) rfl) (sv (asv (.int .i64 y12.2.2) rfl) (W.e (k11 _ _ ?_))))))))
    refine cw_seq fun K19 k20 => ?_
    refine cw_seq fun K21 k22 => ?_
    refine cw_region (sv (mvv (.int .i64 y12.2.2) rfl) (sv (rv_neq rfl rfl) (W.e (k22 _ _ ?_))))
    rcases bif_some h with ⟨b23, h⟩ | ⟨b23, h⟩
    · refine cw_t rfl b23 ?_
      refine cw_seq fun K24 k25 => ?_
      refine cw_region (sv (mvv (.int .i64 y12.2.2) rfl) (sv (asv (.int .i64 0) rfl) (sv (asv (.int .i64 y12.2.2) rfl) (W.e (k25 _ _ (cw_ret ?_))))))
      obtain rfl := osi h
      exact ⟨_, rfl, _, _, _, rfl, C, h0, hs0⟩
    · refine cw_f rfl b23 (cw_skip (k20 _ _ ?_))
      refine cw_seq fun K26 k27 => ?_
      refine cw_seq fun K28 k29 => ?_
      refine cw_region (sv (mvv v0 rfl) ?_)
      obtain ⟨y30, h31, h⟩ := bnd_some h
      have h32 := h0
      rw [h31] at h32
      replace h32 : Ob 61 (index_Index.fs y30) _ _ _ _ _ := h32
      refine sv (rv_nilcheck rfl h32.ptr) (sv (rv_fieldAddr (b := pb v0) (o := 0) st61 rfl h32.ptr) ?_)
      obtain ⟨c33, h34⟩ := h32.at (i := 1) rfl
      refine sr (rw_ofield (i := 1) (c := c33) h32 ag57 h34 rfl) (sv (mvv (.string y12.2.1) rfl) ?_)
      obtain ⟨_, h35, h36⟩ := Ob.rep h32 (i := 1) rfl h34
      obtain ⟨v37, h38, h39⟩ := rep_look (P := Tryz.prog) (tm := 57) (te := 3) (y0 := (0 : Int)) h35 Tryz.underlying57 zv3 (sl_sc.2 rfl) y12.2.1
      obtain rfl := sl_sc.1 h38
      refine sr ((h39 (Sm.refl _ _) rfl rfl).2) (sv (mvv (.tuple (List.toArray [.int .i64 ((mget y12.2.1 y30.ids).getD (0 : Int)), .bool (mget y12.2.1 y30.ids).isSome])) rfl) (sv (rv_extract rfl rfl) (sv (rv_extract rfl rfl) (sv (asv (.int .i64 ((mget y12.2.1 y30.ids).getD (0 : Int))) rfl) (sv (asv (.bool (mget y12.2.1 y30.ids).isSome) rfl) (W.e (k29 _ _ ?_)))))))
      refine cw_seq fun K40 k41 => ?_
      refine cw_region (sv (mvv (.bool (mget y12.2.1 y30.ids).isSome) rfl) (W.e (k41 _ _ ?_)))
      rcases bif_some h with ⟨b42, h⟩ | ⟨b42, h⟩
      · refine cw_t rfl b42 ?_
        refine cw_seq fun K43 k44 => ?_
        refine cw_region (sv (mvv (.int .i64 ((mget y12.2.1 y30.ids).getD (0 : Int))) rfl) (sv (asv (.int .i64 ((mget y12.2.1 y30.ids).getD (0 : Int))) rfl) (sv (asv (.int .i64 0) rfl) (W.e (k44 _ _ (cw_ret ?_))))))
        obtain rfl := osi h
        exact ⟨_, rfl, _, _, _, rfl, C, h32, hs0⟩
      · refine cw_f rfl b42 (cw_skip (k27 _ _ ?_))
        obtain ⟨o45, h48, h⟩ := bnds_some h
        refine cw_seq' (fun ρ w1 => ∃ o45n, o45 = (.inl o45n) ∧ ∃ S1, Cx (fun b => b ∈ fp0) S w S1 w1 ∧ Has ρ [(0, v0), (6, v17), (7, .string y12.2.1)] ∧ Sl (kSl api_Label.k) S1 w1 v17 y12.1 ∧ Obo 61 index_Index.fs S1 w1 v0 a0 cs0 fp0 ∧ Ob 61 (index_Index.fs y30) S1 w1 v0 cs0 fp0) ?_ ?_
        · obtain ⟨o49, h52, h48⟩ := bnd_some h48
          refine cw_seq' (fun ρ w1 => ∃ S1, Cx (fun b => b ∈ fp0) S w S1 w1 ∧ Has ρ [(0, v0), (6, v17), (7, .string y12.2.1), (46, .bool o49)] ∧ Sl (kSl api_Label.k) S1 w1 v17 y12.1 ∧ Obo 61 index_Index.fs S1 w1 v0 a0 cs0 fp0 ∧ Ob 61 (index_Index.fs y30) S1 w1 v0 cs0 fp0) ?_ ?_
          · refine cw_region (sv (mvv v0 rfl) (sv (rv_nilcheck rfl h32.ptr) (sv (rv_fieldAddr (b := pb v0) (o := 0) st61 rfl h32.ptr) ?_)))
            obtain ⟨c53, h54⟩ := h32.at (i := 0) rfl
            refine sr (rw_ofield (i := 0) (c := c53) h32 ag56 h54 rfl) ?_
            obtain ⟨_, h55, h56⟩ := Ob.rep h32 (i := 0) rfl h54
            refine sr (rep_mlen h55 Tryz.underlying56 (Sm.refl _ _) rfl) (sv (rv_geq rfl rfl) (sv (mvv (.bool (decide ((200 : Int) ≤ (y30.series.length : Int)))) rfl) ?_))
            rcases bif_some h52 with ⟨b57, h52⟩ | ⟨b57, h52⟩
            · refine W.n (gn rfl rfl rfl b57) (W.n (gn rfl rfl rfl b57) (W.n (gn rfl rfl rfl b57) (W.n (gn rfl rfl rfl b57) (W.n (gn rfl rfl rfl b57) (sv (ptk (.bool true) rfl b57 rfl) (W.e ?_))))))
              obtain rfl := osi h52
              exact ⟨_, C, ⟨rfl, rfl, rfl, rfl, trivial⟩, h18, h0, h32⟩
            · refine W.v (gy rfl rfl rfl b57) (mvv v0 rfl) (W.v (gy rfl rfl rfl b57) (rv_nilcheck rfl h32.ptr) (W.v (gy rfl rfl rfl b57) (rv_fieldAddr (b := pb v0) (o := 0) st61 rfl h32.ptr) (W.r (gy rfl rfl rfl b57) (rw_ofield (i := 4) (c := .int .i64 y30.given) h32 ag3 (h32.sc (i := 4) rfl) rfl) (W.v (gy rfl rfl rfl b57) (rv_geq rfl rfl) (sv (pfk (.bool (decide ((4096 : Int) ≤ y30.given))) rfl b57 rfl) (W.e ?_))))))
              obtain rfl := osi h52
              exact ⟨_, C, ⟨rfl, rfl, rfl, rfl, trivial⟩, h18, h0, h32⟩
          · rintro ρ w59 ⟨S58, C, h60, h18, h0, h32⟩
            refine h60.cw fun ρ => ?_
            clear h60
            rcases bif_some h48 with ⟨b61, h48⟩ | ⟨b61, h48⟩
            · refine cw_t rfl b61 ?_
              refine cw_seq fun K62 k63 => ?_
              refine cw_region (sv (asv (.int .i64 0) rfl) (sv (asv (.int .i64 4) rfl) (W.e (k63 _ _ (cw_ret ?_)))))
              obtain rfl := osi h48
              replace h := h.2 _ rfl
              obtain rfl := osi h
              exact ⟨_, rfl, _, _, _, rfl, C, h32, hs0⟩
            · refine cw_f rfl b61 (cw_skip ?_)
              obtain rfl := osi h48
              exact ⟨_, rfl, ⟨_, C, ⟨rfl, rfl, rfl, trivial⟩, h18, h0, h32⟩⟩
        · rintro ρ w65 ⟨o45n, rfl, ⟨S64, C, h66, h18, h0, h32⟩⟩
          replace h := h.1 _ rfl
          refine h66.cw fun ρ => ?_
          clear h66
          refine cw_seq fun K67 k68 => ?_
          refine cw_region (sv (mvv v0 rfl) (sv (rv_nilcheck rfl h32.ptr) (sv (rv_fieldAddr (b := pb v0) (o := 0) st61 rfl h32.ptr) (sr (rw_ofield (i := 4) (c := .int .i64 y30.given) h32 ag3 (h32.sc (i := 4) rfl) rfl) (sv (asv (.int .i64 y30.given) rfl) (W.e (k68 _ _ ?_)))))))
          refine cw_seq fun K69 k70 => ?_
          refine cw_region (sv (mvv v0 rfl) (sv (rv_nilcheck rfl h32.ptr) (sv (rv_fieldAddr (b := pb v0) (o := 0) st61 rfl h32.ptr) (sr (rw_ofield (i := 4) (c := .int .i64 y30.given) h32 ag3 (h32.sc (i := 4) rfl) rfl) ?_))))
          obtain ⟨y71, h72, h⟩ := pur_some h
          refine sv (rv_add rfl rfl h72) (sv (rv_nilcheck rfl h32.ptr) (sv (rv_fieldAddr (b := pb v0) (o := 0) st61 rfl h32.ptr) ?_))
          obtain ⟨y73, h74, h⟩ := pur_some h
          have h79 : ∀ b, b ∈ fp0 → ¬ S64 b := fun b hb => (h32.lt b hb).2
          refine sc (dc_ofield (i := 4) (k := (kI .i64)) (h1 := rfl) (a' := y71) h32 rfl ag3 rfl rfl (rep_sc.2 rfl) fun w75 h76 u77 => ?_)
          replace h76 : Ob 61 (index_Index.fs ({ y30 with given := y71 } : index_Index)) S64 w75 v0 (cs0.set 4 (.int .i64 y71)) fp0 := h76
          rw [h74] at h76
          obtain ⟨cs80, h81⟩ : ∃ cs, cs = cs0.set 4 (.int .i64 y71) := ⟨_, rfl⟩
          rw [← h81] at h76
          have c78 := Cx.ofUp C.sb u77
          have h82 : cs80[1]? = some c33 := by rw [h81, List.getElem?_set_ne (by decide)]; exact h34
          replace h18 := h18.cf c78 h79
          replace C := C.ofc c78 hs0
          refine W.e (k70 _ _ ?_)
          refine cw_seq fun K83 k84 => ?_
          refine cw_region (sv (mvv v0 rfl) (sv (mvv (.int .i64 y30.given) rfl) (sv (mvv v17 rfl) (sv (mvv (.string y12.2.1) rfl) ?_))))
          obtain ⟨y85, h86, h⟩ := bnd_some h
          refine sc (dc_call (vs := [v0, .int .i64 y30.given, v17, .string y12.2.1]) can44 rfl ?_)
          refine (index_Index_put_w C.sb h76 h18 h86).mono ?_
          rintro _ w87 ⟨S88, cs90, fp91, rfl, c89, h92, h93⟩
          refine ⟨_, rfl, ?_⟩
          have h94 : ∀ b, b ∈ fp0 → ¬ S64 b := fun b hb => (h76.lt b hb).2
          have h95 : ∀ b, b ∈ fp91 → b ∈ fp0 ∨ w.heap.size ≤ b := fun b hb => (h93 b hb).elim (hs0 b) (fun hl => .inr (Nat.le_trans C.up.size hl))
          replace C := C.ofc c89 hs0
          refine W.e (k84 _ _ ?_)
          refine cw_seq fun K96 k97 => ?_
          refine cw_region (sv (mvv (.int .i64 y30.given) rfl) (sv (asv (.int .i64 y30.given) rfl) (sv (asv (.int .i64 0) rfl) (W.e (k97 _ _ (cw_ret ?_))))))
          obtain rfl := osi h
          exact ⟨_, rfl, _, _, _, rfl, C, h92, h95⟩


theorem slices_IndexFunc_api_Ask_api_Ask_w {S : Nat → Prop} {w : World} {a0 : List api_Ask} {v0 : Value} {f : FuncId} {cs : List Value} {p : api_Ask → Option Bool} {r : Int} (hS : Sb S w) (h0 : Sl (kSl api_Ask.k) S w v0 a0) (hc : CanE Tryz.prog f = true)
    (hf : ∀ x w' v, Up No w w' → Sl api_Ask.k S w' v x → ∀ b, p x = some b → Calls Tryz.prog f ([v] ++ cs).toArray w' fun e w1 => e = .returned (.bool b) ∧ Up No w' w1) (h : indexFunc_ p a0 0 = some r) :
    Calls Tryz.prog 94 (List.toArray [v0, .func (.func f) #[] cs.toArray]) w fun e w1 => e = .returned (.int .i64 r) ∧ Up No w w1 := by
  refine enter Tryz.func94 rfl (by kernel_rfl) rfl ?_
  have hlim : a0.length ≤ lim := by obtain ⟨_, _, _, _, hl, _⟩ := sl_slice.1 h0; exact hl
  refine cw_seq fun K0 k0 => ?_
  refine cw_region (sv (asv (.int .i64 0) rfl) (W.e (k0 _ _ ?_)))
  refine cw_seq' (fun ρ w1 => Up No w w1 ∧ r = -1) ?_ ?_
  · refine cw_seq fun K1 k1 => ?_
    refine cw_region (sv (mvv v0 rfl) ?_)
    refine sv (rv_lenS el32 h0 rfl) (sv (mvv (.int .i64 0) rfl) (W.e (k1 _ _ ?_)))
    refine cw_block (cw_loop (fun n ρ w1 => ∃ i, n = a0.length - i ∧ i ≤ a0.length ∧ Up No w w1 ∧ indexFunc_ p (a0.drop i) (i : Int) = some r ∧ Has ρ [(0, v0), (1, .func (.func f) #[] cs.toArray), (7, .int .i64 (a0.length : Int)), (8, .int .i64 (i : Int))]) _ ⟨0, rfl, Nat.zero_le _, Up.refl _ _, h, ⟨rfl, rfl, rfl, rfl, trivial⟩⟩ ?_)
    rintro n ρ w1 ⟨i, rfl, hi, up, hr, hh⟩
    refine hh.cw fun ρ => ?_
    clear hh
    refine cw_seq fun K2 k2 => ?_
    refine cw_region (sv (rv_lss rfl rfl) (W.e (k2 _ _ ?_)))
    refine cw_seq fun K3 k3 => ?_
    by_cases hlt : i < a0.length
    · refine cw_t rfl (by simp; omega) (cw_skip (k3 _ _ ?_))
      obtain ⟨x, hx⟩ : ∃ x, a0[i]? = some x := ⟨_, List.getElem?_eq_getElem hlt⟩
      have hat : at_ a0 (i : Int) = some x := by simp [at_, hx]
      have hd : a0.drop i = x :: a0.drop (i + 1) := by
        have := List.drop_eq_getElem_cons hlt
        rw [List.getElem?_eq_getElem hlt] at hx
        rw [this, osi hx]
      rw [hd] at hr
      obtain ⟨b, hb, hr⟩ := bnd_some hr
      refine cw_seq fun K4 k4 => ?_
      refine cw_block ?_
      refine cw_seq fun K5 k5 => ?_
      refine cw_region (sv (mvv (.int .i64 (i : Int)) rfl) (sv (asv (.int .i64 (i : Int)) rfl) (W.e (k5 _ _ ?_))))
      refine cw_seq fun K6 k6 => ?_
      have h1 := h0.nw up
      refine cw_region (sv (mvv (.func (.func f) #[] cs.toArray) rfl) (sv (mvv v0 rfl) (sv (mvv (.int .i64 (i : Int)) rfl) ?_)))
      refine sv (rv_index el32 h1 rfl rfl hat) ?_
      obtain ⟨v, hv, hl⟩ := rw_loadA (P := Tryz.prog) el32 h1 hat
      refine sr (hl _ (Sm.refl _ _) rfl) ?_
      refine sc (dc_callC (vs := [v]) rfl hc rfl ?_)
      refine (hf x w1 v up hv b hb).mono ?_
      rintro _ w2 ⟨rfl, up2⟩
      refine ⟨_, rfl, W.e (k6 _ _ ?_)⟩
      cases b with
      | true =>
        refine cw_t rfl rfl ?_
        refine cw_seq fun K7 k7 => ?_
        refine cw_region (sv (mvv (.int .i64 (i : Int)) rfl) (sv (asv (.int .i64 (i : Int)) rfl) (W.e (k7 _ _ (cw_ret ?_)))))
        obtain rfl := osi hr
        exact ⟨_, rfl, rfl, up.trans up2⟩
      | false =>
        refine cw_f rfl rfl (cw_skip (k4 _ _ ?_))
        unfold lim at hlim
        refine cw_region (sv (rv_add (r := ((i + 1 : Nat) : Int)) rfl rfl (by rw [IntKind.wrap_i64]; simp; omega)) (sv (mvv (.int .i64 ((i + 1 : Nat) : Int)) rfl) (W.e ?_)))
        exact ⟨_, by omega, i + 1, rfl, by omega, up.trans up2, by simpa using hr, ⟨rfl, rfl, rfl, rfl, trivial⟩⟩
    · refine cw_f rfl (by simp; omega) (cw_exit ?_)
      have : a0.drop i = [] := List.drop_eq_nil_of_le (by omega)
      rw [this] at hr
      exact ⟨up, (osi hr).symm⟩
  · rintro ρ w1 ⟨up, rfl⟩
    refine cw_seq fun K1 k1 => ?_
    refine cw_region (sv (asv (.int .i64 (-1)) rfl) (W.e (k1 _ _ (cw_ret ?_))))
    exact ⟨_, rfl, rfl, up⟩


theorem slices_ContainsFunc_api_Ask_api_Ask_w {S : Nat → Prop} {w : World} {a0 : List api_Ask} {v0 : Value} {f : FuncId} {cs : List Value} {p : api_Ask → Option Bool} {r : Int} (hS : Sb S w) (h0 : Sl (kSl api_Ask.k) S w v0 a0) (hc : CanE Tryz.prog f = true)
    (hf : ∀ x w' v, Up No w w' → Sl api_Ask.k S w' v x → ∀ b, p x = some b → Calls Tryz.prog f ([v] ++ cs).toArray w' fun e w1 => e = .returned (.bool b) ∧ Up No w' w1) (h : indexFunc_ p a0 0 = some r) :
    Calls Tryz.prog 74 (List.toArray [v0, .func (.func f) #[] cs.toArray]) w fun e w1 => e = .returned (.bool (decide (0 ≤ r))) ∧ Up No w w1 := by
  refine enter Tryz.func74 rfl (by kernel_rfl) rfl ?_
  refine cw_seq fun K0 k0 => ?_
  refine cw_region (sv (asv (.bool false) rfl) (W.e (k0 _ _ ?_)))
  refine cw_seq fun K1 k1 => ?_
  refine cw_region (sv (mvv v0 rfl) (sv (mvv (.func (.func f) #[] cs.toArray) rfl) (sc (dc_call (vs := [v0, .func (.func f) #[] cs.toArray]) can94 rfl ?_))))
  refine (slices_IndexFunc_api_Ask_api_Ask_w hS h0 hc hf h).mono ?_
  rintro _ w1 ⟨rfl, up⟩
  exact ⟨_, rfl, sv (rv_geq rfl rfl) (sv (asv _ rfl) (W.e (k1 _ _ (cw_ret ⟨_, rfl, rfl, up⟩))))⟩

noncomputable def match_may (a0 : api_Ask) : Option Bool :=
  ((((label_Name a0.Name).bind fun y17 => (bif (!y17) then some true else some (decide ((64 : Int) < (a0.Val.size : Int))))).bind fun o13 => (bif o13 then some (.inr false) else some (.inl ()))).bind (Sum.elim (fun o9n => ((bif (a0.Op == (1 : Int)) then some (.inr (!strEq a0.Val ByteArray.empty)) else (bif (a0.Op == (4 : Int)) then some (.inr (strEq a0.Val ByteArray.empty)) else ((bif (a0.Op == (2 : Int)) then some (a0.Op == (2 : Int)) else some (a0.Op == (3 : Int))).bind fun o48 => (bif o48 then some (.inr true) else some (.inl ()))))).bind (Sum.elim (fun o32n => some false) (fun q => some q)))) (fun q => some q)))
theorem match_may_w {S : Nat → Prop} {w : World} {a0 : api_Ask} {v0 : Value} {r : Bool} (hS : Sb S w) (h0 : Sl api_Ask.k S w v0 a0) (h : match_may a0 = some r) :
    Calls Tryz.prog 76 (List.toArray [v0]) w fun e w1 => ∃ S1, e = .returned (.bool r) ∧ Cx No S w S1 w1 := by
  refine enter Tryz.func76 rfl (by kernel_rfl) rfl ?_
  have C := Cx.refl (F := No) hS
  unfold match_may at h
  obtain rfl := api_Ask.o.1 h0
  refine cw_seq fun K1 k2 => ?_
  refine cw_region ?_
  refine sc (dc_boxS C.sb rfl fun b3 S4 w5 c6 h7 => ?_)
  replace C := C.trans c6
  refine sv (asv (.bool false) rfl) (W.e (k2 _ _ ?_))
  obtain ⟨o9, h12, h⟩ := bnds_some h
  refine cw_seq' (fun ρ w1 => ∃ o9n, o9 = (.inl o9n) ∧ ∃ S1, Cx No S w S1 w1 ∧ Has ρ [(1, .pointer (some ⟨b3, 0, none⟩))] ∧ Bs S1 w1 b3 [.int .u8 a0.Op, .string a0.Name, .string a0.Val] 53) ?_ ?_
  · obtain ⟨o13, h16, h12⟩ := bnd_some h12
    refine cw_seq' (fun ρ w1 => ∃ S1, Cx No S w S1 w1 ∧ Has ρ [(1, .pointer (some ⟨b3, 0, none⟩)), (12, .bool o13)] ∧ Bs S1 w1 b3 [.int .u8 a0.Op, .string a0.Name, .string a0.Val] 53) ?_ ?_
    · refine cw_region (sv (rv_fieldAddr st53 rfl rfl) (sr (rw_bk ag9 h7.2 rfl rfl) ?_))
      obtain ⟨y17, h18, h16⟩ := bnd_some h16
      refine sc (dc_call (vs := [.string a0.Name]) can87 rfl ?_)
      refine (label_Name_w C.sb  h18).mono ?_
      rintro _ w19 ⟨S20, rfl, c21⟩
      refine ⟨_, rfl, ?_⟩
      replace h7 := h7.cx c21
      replace C := C.trans c21
      refine sv (rv_not rfl) (sv (mvv (.bool (!y17)) rfl) ?_)
      rcases bif_some h16 with ⟨b22, h16⟩ | ⟨b22, h16⟩
      · refine W.n (gn rfl rfl rfl b22) (W.n (gn rfl rfl rfl b22) (W.n (gn rfl rfl rfl b22) (W.n (gn rfl rfl rfl b22) (sv (ptk (.bool true) rfl b22 rfl) (W.e ?_)))))
        obtain rfl := osi h16
        exact ⟨_, C, ⟨rfl, rfl, trivial⟩, h7⟩
      · refine W.v (gy rfl rfl rfl b22) (rv_fieldAddr st53 rfl rfl) (W.r (gy rfl rfl rfl b22) (rw_bk ag9 h7.2 rfl rfl) (W.v (gy rfl rfl rfl b22) (rv_slen Tryz.underlying9 rfl) (W.v (gy rfl rfl rfl b22) (rv_gtr rfl rfl) (sv (pfk (.bool (decide ((64 : Int) < (a0.Val.size : Int)))) rfl b22 rfl) (W.e ?_)))))
        obtain rfl := osi h16
        exact ⟨_, C, ⟨rfl, rfl, trivial⟩, h7⟩
    · rintro ρ w24 ⟨S23, C, h25, h7⟩
      refine h25.cw fun ρ => ?_
      clear h25
      rcases bif_some h12 with ⟨b26, h12⟩ | ⟨b26, h12⟩
      · refine cw_t rfl b26 ?_
        refine cw_seq fun K27 k28 => ?_
        refine cw_region (sv (asv (.bool false) rfl) (W.e (k28 _ _ (cw_ret ?_))))
        obtain rfl := osi h12
        replace h := h.2 _ rfl
        obtain rfl := osi h
        exact ⟨_, rfl, _, rfl, C⟩
      · refine cw_f rfl b26 (cw_skip ?_)
        obtain rfl := osi h12
        exact ⟨_, rfl, ⟨_, C, ⟨rfl, trivial⟩, h7⟩⟩
  · rintro ρ w30 ⟨o9n, rfl, ⟨S29, C, h31, h7⟩⟩
    replace h := h.1 _ rfl
    refine h31.cw fun ρ => ?_
    clear h31
    obtain ⟨o32, h35, h⟩ := bnds_some h
    refine cw_seq' (fun ρ w1 => ∃ o32n, o32 = (.inl o32n) ∧ ∃ S1, Cx No S w S1 w1 ∧ Has ρ []) ?_ ?_
    · refine cw_seq fun K36 k37 => ?_
      refine cw_region (sv (rv_fieldAddr st53 rfl rfl) (sr (rw_bk ag5 h7.2 rfl rfl) (W.e (k37 _ _ (cw_block ?_)))))
      refine cw_seq fun K38 k39 => ?_
      refine cw_region (sv (rv_eql rfl rfl) (sv (asv (.bool (a0.Op == (1 : Int))) rfl) (W.e (k39 _ _ ?_))))
      rcases bif_some h35 with ⟨b40, h35⟩ | ⟨b40, h35⟩
      · refine cw_t rfl b40 ?_
        refine cw_seq fun K41 k42 => ?_
        refine cw_region (sv (rv_fieldAddr st53 rfl rfl) (sr (rw_bk ag9 h7.2 rfl rfl) (sv (rv_sneq rfl rfl) (sv (asv (.bool (!strEq a0.Val ByteArray.empty)) rfl) (W.e (k42 _ _ (cw_ret ?_)))))))
        obtain rfl := osi h35
        replace h := h.2 _ rfl
        obtain rfl := osi h
        exact ⟨_, rfl, _, rfl, C⟩
      · refine cw_f rfl b40 ?_
        refine cw_seq fun K43 k44 => ?_
        refine cw_region (sv (rv_eql rfl rfl) (sv (asv (.bool (a0.Op == (4 : Int))) rfl) (W.e (k44 _ _ ?_))))
        rcases bif_some h35 with ⟨b45, h35⟩ | ⟨b45, h35⟩
        · refine cw_t rfl b45 ?_
          refine cw_seq fun K46 k47 => ?_
          refine cw_region (sv (rv_fieldAddr st53 rfl rfl) (sr (rw_bk ag9 h7.2 rfl rfl) (sv (rv_seql rfl rfl) (sv (asv (.bool (strEq a0.Val ByteArray.empty)) rfl) (W.e (k47 _ _ (cw_ret ?_)))))))
          obtain rfl := osi h35
          replace h := h.2 _ rfl
          obtain rfl := osi h
          exact ⟨_, rfl, _, rfl, C⟩
        · refine cw_f rfl b45 ?_
          obtain ⟨o48, h51, h35⟩ := bnd_some h35
          refine cw_seq' (fun ρ w1 => ∃ S1, Cx No S w S1 w1 ∧ Has ρ [(25, .bool o48)]) ?_ ?_
          · refine cw_seq fun K52 k53 => ?_
            refine cw_region (sv (rv_eql rfl rfl) (sv (asv (.bool (a0.Op == (2 : Int))) rfl) (W.e (k53 _ _ ?_))))
            rcases bif_some h51 with ⟨b54, h51⟩ | ⟨b54, h51⟩
            · refine cw_t rfl b54 (cw_skip ?_)
              obtain rfl := osi h51
              exact ⟨_, C, ⟨rfl, trivial⟩⟩
            · refine cw_f rfl b54 (cw_region (sv (rv_eql rfl rfl) (sv (asv (.bool (a0.Op == (3 : Int))) rfl) (W.e ?_))))
              obtain rfl := osi h51
              exact ⟨_, C, ⟨rfl, trivial⟩⟩
          · rintro ρ w56 ⟨S55, C, h57⟩
            refine h57.cw fun ρ => ?_
            clear h57
            rcases bif_some h35 with ⟨b58, h35⟩ | ⟨b58, h35⟩
            · refine cw_t rfl b58 ?_
              refine cw_seq fun K59 k60 => ?_
              refine cw_region (sv (asv (.bool true) rfl) (W.e (k60 _ _ (cw_ret ?_))))
              obtain rfl := osi h35
              replace h := h.2 _ rfl
              obtain rfl := osi h
              exact ⟨_, rfl, _, rfl, C⟩
            · refine cw_f rfl b58 (cw_skip ?_)
              obtain rfl := osi h35
              exact ⟨_, rfl, ⟨_, C, trivial⟩⟩
    · rintro ρ w62 ⟨o32n, rfl, ⟨S61, C, h63⟩⟩
      replace h := h.1 _ rfl
      refine h63.cw fun ρ => ?_
      clear h63
      refine cw_seq fun K64 k65 => ?_
      refine cw_region (sv (asv (.bool false) rfl) (W.e (k65 _ _ (cw_ret ?_))))
      obtain rfl := osi h
      exact ⟨_, rfl, _, rfl, C⟩

noncomputable def match_Right_1 (a0 : api_Ask) : Option Bool :=
  ((match_may a0).bind fun y11 => some (!y11))
theorem match_Right_1_w {S : Nat → Prop} {w : World} {a0 : api_Ask} {v0 : Value} {r : Bool} (hS : Sb S w) (h0 : Sl api_Ask.k S w v0 a0) (h : match_Right_1 a0 = some r) :
    Calls Tryz.prog 75 (List.toArray [v0]) w fun e w1 => ∃ S1, e = .returned (.bool r) ∧ Cx No S w S1 w1 := by
  refine enter Tryz.func75 rfl (by kernel_rfl) rfl ?_
  have C := Cx.refl (F := No) hS
  unfold match_Right_1 at h
  obtain rfl := api_Ask.o.1 h0
  refine cw_seq fun K1 k2 => ?_
  refine cw_region ?_
  refine sc (dc_boxS C.sb rfl fun b3 S4 w5 c6 h7 => ?_)
  replace C := C.trans c6
  refine sv (asv (.bool false) rfl) (W.e (k2 _ _ ?_))
  refine cw_seq fun K9 k10 => ?_
  refine cw_region (sr (rw_bkA ag53 h7.2 rfl rfl rfl) ?_)
  obtain ⟨y11, h12, h⟩ := bnd_some h
  refine sc (dc_call (vs := [.agg (List.toArray [.int .u8 a0.Op, .string a0.Name, .string a0.Val])]) can76 rfl ?_)
  refine (match_may_w C.sb ((api_Ask.o (x := a0)).2 rfl) h12).mono ?_
  rintro _ w13 ⟨S14, rfl, c15⟩
  refine ⟨_, rfl, ?_⟩
  replace C := C.trans c15
  refine sv (rv_not rfl) (sv (asv (.bool (!y11)) rfl) (W.e (k10 _ _ (cw_ret ?_))))
  obtain rfl := osi h
  exact ⟨_, rfl, _, rfl, C⟩

noncomputable def match_Right (a0 : List api_Ask) : Option Bool :=
  ((bif (decide ((a0.length : Int) ≤ (8 : Int))) then ((indexFunc_ (fun x => match_Right_1 x ) a0 0).bind fun y8 => some (!(decide (0 ≤ y8)))) else some false).bind fun o3 => some o3)
theorem match_Right_w {S : Nat → Prop} {w : World} {a0 : List api_Ask} {v0 : Value} {r : Bool} (hS : Sb S w) (h0 : Sl (kSl api_Ask.k) S w v0 a0) (h : match_Right a0 = some r) :
    Calls Tryz.prog 49 (List.toArray [v0]) w fun e w1 => ∃ S1, e = .returned (.bool r) ∧ Cx No S w S1 w1 := by
  refine enter Tryz.func49 rfl (by kernel_rfl) rfl ?_
  have C := Cx.refl (F := No) hS
  unfold match_Right at h
  refine cw_seq fun K1 k2 => ?_
  refine cw_region (sv (asv (.bool false) rfl) (W.e (k2 _ _ ?_)))
  obtain ⟨o3, h6, h⟩ := bnd_some h
  refine cw_seq' (fun ρ w1 => ∃ S1, Cx No S w S1 w1 ∧ Has ρ [(2, .bool o3)]) ?_ ?_
  · refine cw_region (sv (mvv v0 rfl) (sv (rv_lenS el32 h0 rfl) (sv (rv_leq rfl rfl) (sv (mvv (.bool (decide ((a0.length : Int) ≤ (8 : Int)))) rfl) ?_))))
    rcases bif_some h6 with ⟨b7, h6⟩ | ⟨b7, h6⟩
    · refine W.v (gy rfl rfl rfl b7) (mvv v0 rfl) ?_
      obtain ⟨y8, h9, h6⟩ := bnd_some h6
      refine W.c (gy rfl rfl rfl b7) (dc_call (vs := [v0, .func (.func 75) #[] #[]]) can74 rfl ?_)
      have h9f : ∀ (x : api_Ask) (w' : World) (v : Value), Up No w w' → Sl api_Ask.k S w' v x → ∀ b, match_Right_1 x  = some b → Calls Tryz.prog 75 (List.toArray ([v] ++ [])) w' (fun e w1 => e = .returned (.bool b) ∧ Up No w' w1) := fun x w' v hu hx b hb => by skip; exact (match_Right_1_w (C.sb.up hu) hx hb).mono fun e w1 hp => (by obtain ⟨S1, rfl, c⟩ := hp; exact ⟨rfl, c.up⟩ : e = .returned (.bool b) ∧ Up No w' w1)
      refine (slices_ContainsFunc_api_Ask_api_Ask_w C.sb h0 can75 h9f h9).mono ?_
      rintro _ w10 ⟨rfl, u11⟩
      refine ⟨_, rfl, ?_⟩
      replace C := C.new u11
      refine W.v (gy rfl rfl rfl b7) (rv_not rfl) (sv (ptk (.bool (!(decide (0 ≤ y8)))) rfl b7 rfl) (sv (asv (.bool (!(decide (0 ≤ y8)))) rfl) (W.e ?_)))
      obtain rfl := osi h6
      exact ⟨_, C, ⟨rfl, trivial⟩⟩
    · refine W.n (gn rfl rfl rfl b7) (W.n (gn rfl rfl rfl b7) (W.n (gn rfl rfl rfl b7) (sv (pfk (.bool false) rfl b7 rfl) (sv (asv (.bool false) rfl) (W.e ?_)))))
      obtain rfl := osi h6
      exact ⟨_, C, ⟨rfl, trivial⟩⟩
  · rintro ρ w13 ⟨S12, C, h14⟩
    refine h14.cw fun ρ => ?_
    clear h14
    refine cw_ret ?_
    obtain rfl := osi h
    exact ⟨_, rfl, _, rfl, C⟩

def slices_Sort_int_int (a0 : List Int) : Option (List Int) := some (a0.mergeSort fun x y => decide (x ≤ y))
theorem slices_Sort_int_int_w {S : Nat → Prop} {w : World} {a0 : List Int} {v0 : Value} {base : Nat} {r : List Int} (hS : Sb S w) (h0 : Ow (kI .i64) 3 S base w v0 a0) (h : slices_Sort_int_int a0 = some r) :
    Calls Tryz.prog 61 (List.toArray [v0]) w fun e w1 => e = .returned (.tuple (List.toArray [])) ∧ Up (Blk v0) w w1 ∧ Ow (kI .i64) 3 S base w1 v0 r :=
  sortI_w Tryz.slices_Sort_int Tryz.slices_Sort_int_none hS h0 (osi h)

noncomputable def index_Index_all (a0 : index_Index) : Option (List Int) := keys_ (a0.series.map (·.1))
theorem index_Index_all_w {S : Nat → Prop} {w : World} {a0 : index_Index} {v0 : Value} {cs0 : List Value} {fp0 : List Nat} {r : List Int} (hS : Sb S w) (h0 : Ob 61 (index_Index.fs a0) S w v0 cs0 fp0) (h : index_Index_all a0 = some r) :
    Calls Tryz.prog 34 (List.toArray [v0]) w fun e w1 => ∃ S1 u0, e = .returned (u0) ∧ Cx No S w S1 w1 ∧ Ow (kI .i64) 3 S1 w.heap.size w1 u0 r := by
  refine enter Tryz.func34 rfl (by kernel_rfl) rfl ?_
  have C := Cx.refl (F := No) hS
  unfold index_Index_all at h
  refine cw_seq fun K1 k1 => cw_region (sv (asv (.slice none 0 0) rfl) (W.e (k1 _ _ ?_)))
  have x := a0
  have hq : Ob 61 (index_Index.fs a0) S w v0 cs0 fp0 := h0
  obtain ⟨hlen, hr⟩ := keys_some h
  refine cw_seq fun K5 k5 => cw_region (sv (asv (.slice none 0 0) rfl) (W.e (k5 _ _ ?_)))
  obtain ⟨c, hc⟩ := hq.at (i := 0) rfl
  obtain ⟨fi, hrep, hsub⟩ := Ob.rep hq (i := 0) rfl hc
  obtain ⟨b, L, cl, rfl, hfi, hSb, hM, hR⟩ := hrep
  have hbf : b ∈ fp0 := hsub b (by rw [hfi]; simp)
  have hlt : ∀ q ∈ fp0, q < w.heap.size := fun q hq2 => (hq.lt q hq2).1
  have hk : L.map (·.1) = a0.series.map (·.1) := hR.keys
  refine cw_seq' (fun ρ w2 => ∃ u ks, Cx No S w S w2 ∧ Has ρ [(3, u)] ∧ Ow (kI .i64) 3 S w.heap.size w2 u ks ∧ ks.Perm (L.map (·.1))) ?_ ?_
  · refine cw_seq fun K6 k6 => ?_
    refine cw_region (sv (mvv v0 rfl) ?_)
    refine sv (rv_nilcheck rfl hq.ptr) (sv (rv_fieldAddr (b := pb v0) (o := 0) st61 rfl hq.ptr) (sr (rw_ofield (i := 0) (c := .map (some b)) hq ag56 hc rfl) ?_))
    refine sc (dc_range hM Tryz.underlying56 rfl fun rb w1 hrb hrl hI up => ?_)
    replace C := C.new up
    replace hM := hM.to (up.block b hM.lt fun h => h)
    refine W.e (k6 _ _ ?_)
    refine cw_block (cw_loop (fun n ρ w2 => ∃ rem lst u ks, n = rem.length ∧ Cx No S w S w2 ∧ Has ρ [(3, u), (9, .pointer (some ⟨rb, 0, none⟩))] ∧ Mp ((kyI Tryz.underlying3)) w2 b L cl ∧ It w2 rb b L cl rem lst ∧ Ow (kI .i64) 3 S w.heap.size w2 u ks ∧ (ks ++ rem.map (·.1)).Perm (L.map (·.1)) ∧ ¬ Blk u rb) _ ⟨L, none, _, [], rfl, C, ⟨rfl, rfl, trivial⟩, hM, hI, Ow.nil _ _ _ _ _, List.Perm.refl _, fun hb => ap_nil (B := fun _ => True) _ hb trivial⟩ ?_)
    clear C hM hI
    rintro n ρ w2 ⟨rem, lst, u, ks, rfl, C, hh, hM, hI, hO, hP, hrb2⟩
    refine hh.cw fun ρ => ?_
    clear hh
    have hbw : b < w.heap.size := hlt b hbf
    refine cw_seq fun K7 k7 => ?_
    refine cw_region (sc (dc_next hM hI rfl ?_ ?_))
    · rintro rfl
      refine sv (rv_extract rfl rfl) (W.e (k7 _ _ ?_))
      refine cw_seq fun K8 k8 => cw_f rfl rfl (cw_exit ⟨u, ks, C, ⟨rfl, trivial⟩, hO, by simpa using hP⟩)
    · intro e w3 he hI2 up2
      refine sv (rv_extract rfl rfl) (W.e (k7 _ _ ?_))
      refine cw_seq fun K8 k8 => cw_t rfl rfl (cw_skip (k8 _ _ ?_))
      replace C := C.ofp up2 (fun q hq => .inr (by have hq : q = rb := hq; omega))
      have hrS : ∀ q, One rb q → ¬ S q := fun q hq hs => by have hq : q = rb := hq; have := hS q hs; omega
      replace hO := hO.wr up2 hrS (fun q h1 h2 => by have h2 : q = rb := h2; rw [h2] at h1; exact hrb2 h1)
      replace hM := hM.to (up2.block b hM.lt fun hq => by have hq : b = rb := hq; omega)
      have heL : e ∈ L := hI.sub.subset he
      refine cw_block (cw_seq fun K10 k10 => ?_)
      refine cw_region (sr (rw_entry hM hI2 heL rfl) (sv (rv_extract rfl rfl) (sv (asv (.int .i64 e.1) rfl) (W.e (k10 _ _ ?_)))))
      refine cw_region (sv (mvv u rfl) (sv (mvv (.int .i64 e.1) rfl) (sc (dc_lit (vs := [.int .i64 e.1]) (xs := [e.1]) (base := w.heap.size) el49 rfl rfl (.cons (sl_sc.2 rfl) .nil) (Nat.le_of_ble_eq_true rfl) C.up.size C.sb fun u2 w4 hO2 hb2 up4 => ?_))))
      replace C := C.new up4
      replace hO := hO.nw up4
      replace hM := hM.to (up4.block b hM.lt fun h => h)
      replace hI2 := hI2.to (up4.block rb hI2.lt fun h => h)
      have hp1 : (ks ++ [e.1] ++ (rem.filter fun z => !decide (e.2.2 = z.2.2)).map (·.1)).Perm (L.map (·.1)) := (keys_step he (hI.born hM)).trans hP
      have happ : app_ 8 ks [e.1] = some (ks ++ [e.1]) := by
        have := hp1.length_eq
        simp only [List.length_append, List.length_map, List.length_cons, List.length_nil] at this
        have hk2 := congrArg List.length hk
        simp only [List.length_map] at hk2 hlen
        unfold app_
        rw [if_pos (by simp only [List.length_cons, List.length_nil]; omega)]
      refine sc (dc_append el49 (by decide) hO hO2.src rfl rfl happ C.up.size C.sb fun u3 w5 hO3 up5 hb3 => ?_)
      have hbu : ∀ q, q < w.heap.size → ¬ Blk u q := fun q hq hb => by have := (hO.lt q hb).1; omega
      have hrl2 := hI2.lt
      replace C := C.ow hO up5
      replace hM := hM.to (up5.block b hM.lt (hbu b hbw))
      have hI3 := hI2.to (up5.block rb hrl2 hrb2)
      refine sv (asv u3 rfl) (W.e ?_)
      refine ⟨_, rest_lt he, _, some e, u3, ks ++ [e.1], rfl, C, ⟨rfl, rfl, trivial⟩, hM, hI3, hO3, hp1, fun hb => (hb3 rb hb).elim hrb2 (fun hl => by omega)⟩
  · rintro ρ w2 ⟨u, ks, C, hh, hO, hP⟩
    refine hh.cw fun ρ => ?_
    clear hh
    refine cw_seq fun K11 k11 => cw_region (sv (mvv u rfl) (sc (dc_call (vs := [u]) can61 rfl ?_)))
    refine (slices_Sort_int_int_w C.sb hO rfl).mono ?_
    rintro _ w3 ⟨rfl, up3, hO3⟩
    refine ⟨_, rfl, W.e (k11 _ _ ?_)⟩
    replace C := C.ow hO up3
    refine cw_seq fun K12 k12 => cw_region (sv (mvv u rfl) (sv (asv u rfl) (W.e (k12 _ _ (cw_ret ?_)))))
    have he : (ks.mergeSort fun x y => decide (x ≤ y)) = r := by
      rw [← hr, ← hk]
      exact keys_perm hP
    rw [he] at hO3
    exact ⟨_, rfl, S, u, rfl, C, hO3⟩

noncomputable def post_Minus (a0 : List Int) (a1 : List Int) : Option ((List Int) × Int) :=
  ((post_merge a0 a1 true false false).bind fun y5 => some (y5.1, y5.2))
theorem post_Minus_w {S : Nat → Prop} {w : World} {a0 : List Int} {a1 : List Int} {v0 v1 : Value} {r : (List Int) × Int} (hS : Sb S w) (h0 : Sl (kSl (kI .i64)) S w v0 a0) (h1 : Sl (kSl (kI .i64)) S w v1 a1) (h : post_Minus a0 a1 = some r) :
    Calls Tryz.prog 77 (List.toArray [v0, v1]) w fun e w1 => ∃ S1 u0, e = .returned (.tuple (List.toArray [u0, .int .i64 r.2])) ∧ Cx No S w S1 w1 ∧ Sl (kSl (kI .i64)) S1 w1 u0 r.1 := by
  refine enter Tryz.func77 rfl (by kernel_rfl) rfl ?_
  have C := Cx.refl (F := No) hS
  unfold post_Minus at h
  refine cw_seq fun K1 k2 => ?_
  refine cw_region (sv (asv (.slice none 0 0) rfl) (sv (asv (.int .i64 0) rfl) (W.e (k2 _ _ ?_))))
  refine cw_seq fun K3 k4 => ?_
  refine cw_region (sv (mvv v0 rfl) (sv (mvv v1 rfl) ?_))
  obtain ⟨y5, h6, h⟩ := bnd_some h
  refine sc (dc_call (vs := [v0, v1, .bool true, .bool false, .bool false]) can95 rfl ?_)
  refine (post_merge_w C.sb h0 h1 h6).mono ?_
  rintro _ w7 ⟨S8, v10, rfl, c9, h11⟩
  refine ⟨_, rfl, ?_⟩
  replace C := C.trans c9
  refine sv (rv_extract rfl rfl) (sv (rv_extract rfl rfl) (sv (asv v10 rfl) (sv (asv (.int .i64 y5.2) rfl) (W.e (k4 _ _ (cw_ret ?_))))))
  obtain rfl := osi h
  exact ⟨_, rfl, _, _, rfl, C, h11⟩

def slices_Clone_int_int (a0 : List Int) : Option (List Int) := clone_ 8 a0
theorem slices_Clone_int_int_w {S : Nat → Prop} {w : World} {a0 : List Int} {v0 : Value} {r : List Int} (hS : Sb S w) (h0 : Sl (kSl (kI .i64)) S w v0 a0) (h : slices_Clone_int_int a0 = some r) :
    Calls Tryz.prog 52 (List.toArray [v0]) w fun e w1 => ∃ S1 u0, e = .returned u0 ∧ Cx No S w S1 w1 ∧ Ow (kI .i64) 3 S1 w.heap.size w1 u0 r := by
  refine enter Tryz.func52 rfl (by kernel_rfl) rfl ?_
  have C := Cx.refl (F := No) hS
  unfold slices_Clone_int_int at h
  refine cw_seq fun K1 k1 => cw_region (sv rv_assign (W.e (k1 _ _ ?_)))
  obtain ⟨A, c, rfl, _, _, hA⟩ := sl_slice.1 h0
  refine cw_seq fun K2 k2 => cw_seq fun K3 k3 => cw_region (sv rv_move (sv (rv_slnil Tryz.underlying49 rfl rfl) (W.e (k3 _ _ ?_))))
  cases A with
  | none =>
    refine cw_t rfl rfl (cw_seq fun K4 k4 => cw_region (sv rv_assign (W.e (k4 _ _ (cw_ret ?_)))))
    have : a0 = [] := hA.elim (fun h => h) fun ⟨_, _, h, _⟩ => by cases h
    subst this
    obtain rfl := clone_nil h
    exact ⟨_, rfl, S, _, rfl, C, Ow.nil _ _ _ _ _⟩
  | some a =>
    refine cw_f rfl rfl (cw_skip (k2 _ _ ?_))
    refine cw_seq fun K5 k5 => cw_region ?_
    refine sc (dc_lit (vs := []) (xs := ([] : List Int)) (base := w.heap.size) el49 rfl rfl .nil (Nat.le_of_ble_eq_true rfl) C.up.size C.sb fun u w1 ho hb up => ?_)
    replace h0 := h0.nw up
    replace C := C.new up
    refine sv rv_move (sc (dc_append el49 (by decide) ho (h0.src fun _ h => h) rfl rfl (clone_app h) C.up.size C.sb fun u2 w2 ho2 up2 hb2 => ?_))
    replace C := C.ow ho up2
    exact sv rv_assign (W.e (k5 _ _ (cw_ret ⟨_, rfl, S, _, rfl, C, ho2⟩)))


theorem slices_IndexFunc_int_int_w {S : Nat → Prop} {w : World} {a0 : List Int} {v0 : Value} {f : FuncId} {cs : List Value} {p : Int → Option Bool} {r : Int} (hS : Sb S w) (h0 : Sl (kSl (kI .i64)) S w v0 a0) (hc : CanE Tryz.prog f = true)
    (hf : ∀ x w' v, Up No w w' → Sl (kI .i64) S w' v x → ∀ b, p x = some b → Calls Tryz.prog f ([v] ++ cs).toArray w' fun e w1 => e = .returned (.bool b) ∧ Up No w' w1) (h : indexFunc_ p a0 0 = some r) :
    Calls Tryz.prog 96 (List.toArray [v0, .func (.func f) #[] cs.toArray]) w fun e w1 => e = .returned (.int .i64 r) ∧ Up No w w1 := by
  refine enter Tryz.func96 rfl (by kernel_rfl) rfl ?_
  have hlim : a0.length ≤ lim := by obtain ⟨_, _, _, _, hl, _⟩ := sl_slice.1 h0; exact hl
  refine cw_seq fun K0 k0 => ?_
  refine cw_region (sv (asv (.int .i64 0) rfl) (W.e (k0 _ _ ?_)))
  refine cw_seq' (fun ρ w1 => Up No w w1 ∧ r = -1) ?_ ?_
  · refine cw_seq fun K1 k1 => ?_
    refine cw_region (sv (mvv v0 rfl) ?_)
    refine sv (rv_lenS el49 h0 rfl) (sv (mvv (.int .i64 0) rfl) (W.e (k1 _ _ ?_)))
    refine cw_block (cw_loop (fun n ρ w1 => ∃ i, n = a0.length - i ∧ i ≤ a0.length ∧ Up No w w1 ∧ indexFunc_ p (a0.drop i) (i : Int) = some r ∧ Has ρ [(0, v0), (1, .func (.func f) #[] cs.toArray), (7, .int .i64 (a0.length : Int)), (8, .int .i64 (i : Int))]) _ ⟨0, rfl, Nat.zero_le _, Up.refl _ _, h, ⟨rfl, rfl, rfl, rfl, trivial⟩⟩ ?_)
    rintro n ρ w1 ⟨i, rfl, hi, up, hr, hh⟩
    refine hh.cw fun ρ => ?_
    clear hh
    refine cw_seq fun K2 k2 => ?_
    refine cw_region (sv (rv_lss rfl rfl) (W.e (k2 _ _ ?_)))
    refine cw_seq fun K3 k3 => ?_
    by_cases hlt : i < a0.length
    · refine cw_t rfl (by simp; omega) (cw_skip (k3 _ _ ?_))
      obtain ⟨x, hx⟩ : ∃ x, a0[i]? = some x := ⟨_, List.getElem?_eq_getElem hlt⟩
      have hat : at_ a0 (i : Int) = some x := by simp [at_, hx]
      have hd : a0.drop i = x :: a0.drop (i + 1) := by
        have := List.drop_eq_getElem_cons hlt
        rw [List.getElem?_eq_getElem hlt] at hx
        rw [this, osi hx]
      rw [hd] at hr
      obtain ⟨b, hb, hr⟩ := bnd_some hr
      refine cw_seq fun K4 k4 => ?_
      refine cw_block ?_
      refine cw_seq fun K5 k5 => ?_
      refine cw_region (sv (mvv (.int .i64 (i : Int)) rfl) (sv (asv (.int .i64 (i : Int)) rfl) (W.e (k5 _ _ ?_))))
      refine cw_seq fun K6 k6 => ?_
      have h1 := h0.nw up
      refine cw_region (sv (mvv (.func (.func f) #[] cs.toArray) rfl) (sv (mvv v0 rfl) (sv (mvv (.int .i64 (i : Int)) rfl) ?_)))
      refine sv (rv_index el49 h1 rfl rfl hat) ?_
      obtain ⟨v, hv, hl⟩ := rw_loadA (P := Tryz.prog) el49 h1 hat
      refine sr (hl _ (Sm.refl _ _) rfl) ?_
      refine sc (dc_callC (vs := [v]) rfl hc rfl ?_)
      refine (hf x w1 v up hv b hb).mono ?_
      rintro _ w2 ⟨rfl, up2⟩
      refine ⟨_, rfl, W.e (k6 _ _ ?_)⟩
      cases b with
      | true =>
        refine cw_t rfl rfl ?_
        refine cw_seq fun K7 k7 => ?_
        refine cw_region (sv (mvv (.int .i64 (i : Int)) rfl) (sv (asv (.int .i64 (i : Int)) rfl) (W.e (k7 _ _ (cw_ret ?_)))))
        obtain rfl := osi hr
        exact ⟨_, rfl, rfl, up.trans up2⟩
      | false =>
        refine cw_f rfl rfl (cw_skip (k4 _ _ ?_))
        unfold lim at hlim
        refine cw_region (sv (rv_add (r := ((i + 1 : Nat) : Int)) rfl rfl (by rw [IntKind.wrap_i64]; simp; omega)) (sv (mvv (.int .i64 ((i + 1 : Nat) : Int)) rfl) (W.e ?_)))
        exact ⟨_, by omega, i + 1, rfl, by omega, up.trans up2, by simpa using hr, ⟨rfl, rfl, rfl, rfl, trivial⟩⟩
    · refine cw_f rfl (by simp; omega) (cw_exit ?_)
      have : a0.drop i = [] := List.drop_eq_nil_of_le (by omega)
      rw [this] at hr
      exact ⟨up, (osi hr).symm⟩
  · rintro ρ w1 ⟨up, rfl⟩
    refine cw_seq fun K1 k1 => ?_
    refine cw_region (sv (asv (.int .i64 (-1)) rfl) (W.e (k1 _ _ (cw_ret ?_))))
    exact ⟨_, rfl, rfl, up⟩


theorem slices_DeleteFunc_int_int_w {S : Nat → Prop} {w : World} {a0 : List Int} {v0 : Value} {base : Nat} {f : FuncId} {cs : List Value} {p : Int → Option Bool} {r : List Int} (hS : Sb S w) (h0 : Ow (kI .i64) 3 S base w v0 a0) (hc : CanE Tryz.prog f = true)
    (hf : ∀ x w' v, Up (Blk v0) w w' → Sl (kI .i64) S w' v x → ∀ b, p x = some b → Calls Tryz.prog f ([v] ++ cs).toArray w' fun e w1 => e = .returned (.bool b) ∧ Up No w' w1) (h : delF_ p a0 = some r) :
    Calls Tryz.prog 78 (List.toArray [v0, .func (.func f) #[] cs.toArray]) w fun e w1 => ∃ u0, e = .returned u0 ∧ Up (Blk v0) w w1 ∧ Ow (kI .i64) 3 S base w1 u0 r ∧ ∀ b, Blk u0 b → Blk v0 b ∨ w.heap.size ≤ b := by
  refine enter Tryz.func78 rfl (by kernel_rfl) rfl ?_
  have hlim : a0.length ≤ lim := h0.lim
  unfold lim at hlim
  refine cw_seq fun K0 k0 => ?_
  refine cw_region (sv (asv (.slice none 0 0) rfl) (W.e (k0 _ _ ?_)))
  refine cw_seq fun K1 k1 => ?_
  have hidx : ∃ y, indexFunc_ p a0 0 = some y := by
    rcases delF_split (k := 0) h with ⟨h1, _⟩ | ⟨_, _, _, _, _, h1, _⟩
    · exact ⟨_, h1⟩
    · exact ⟨_, h1⟩
  obtain ⟨y, hy⟩ := hidx
  refine cw_region (sv (mvv v0 rfl) (sv (mvv (.func (.func f) #[] cs.toArray) rfl) (sc (dc_call (vs := [v0, .func (.func f) #[] cs.toArray]) can96 rfl ?_))))
  refine (slices_IndexFunc_int_int_w (h0.sbO hS) h0.sealed hc (fun x w' v hu hx b hb => hf x w' v (hu.mono fun _ _ h => h.elim) (hx.flat flat_sc) b hb) hy).mono ?_
  rintro _ w1 ⟨rfl, up⟩
  refine ⟨_, rfl, sv (asv (.int .i64 y) rfl) (W.e (k1 _ _ ?_))⟩
  have hO := h0.nw up
  refine cw_seq fun K2 k2 => ?_
  refine cw_seq fun K3 k3 => ?_
  refine cw_region (sv (mvv (.int .i64 y) rfl) (sv (rv_eql rfl rfl) (W.e (k3 _ _ ?_))))
  rcases delF_split (k := 0) h with ⟨h1, rfl⟩ | ⟨A, x0, B, r2, hl0, h1, h2, hr⟩
  · obtain rfl := osi (h1.symm.trans hy)
    refine cw_t rfl rfl ?_
    refine cw_seq fun K4 k4 => ?_
    refine cw_region (sv (mvv v0 rfl) (sv (asv v0 rfl) (W.e (k4 _ _ (cw_ret ?_)))))
    exact ⟨_, rfl, v0, rfl, up.mono fun _ _ h => h.elim, hO, fun b hb => .inl hb⟩
  rw [Int.zero_add] at h1
  obtain rfl := osi (h1.symm.trans hy)
  have hAl : A.length + 1 ≤ a0.length := by rw [hl0]; simp only [List.length_append, List.length_cons]; omega
  refine cw_f rfl (by simp <;> omega) (cw_skip (k2 _ _ ?_))
  refine cw_seq' (fun ρ w2 => ∃ (i : Nat) (c : List Int), Up (Blk v0) w w2 ∧ Ow (kI .i64) 3 S base w2 v0 c ∧ i ≤ c.length ∧ c.take i = r ∧ Has ρ [(0, v0), (5, .int .i64 (i : Int))]) ?_ ?_
  · refine cw_seq fun K5 k5 => ?_
    refine cw_region (sv (mvv (.int .i64 ((A.length : Nat) : Int)) rfl) (sv (rv_add (r := ((A.length + 1 : Nat) : Int)) rfl rfl (by rw [IntKind.wrap_i64]; simp; omega)) (sv (asv (.int .i64 ((A.length + 1 : Nat) : Int)) rfl) (W.e (k5 _ _ ?_)))))
    refine cw_block (cw_loop (fun n ρ w2 => ∃ (i j : Nat) (c : List Int) (q : List Int), n = a0.length - j ∧ i < j ∧ j ≤ a0.length ∧ c.length = a0.length ∧ c.drop j = a0.drop j ∧ delF_ p (a0.drop j) = some q ∧ c.take i ++ q = r ∧ Up (Blk v0) w w2 ∧ Ow (kI .i64) 3 S base w2 v0 c ∧
        Has ρ [(0, v0), (1, .func (.func f) #[] cs.toArray), (5, .int .i64 (i : Int)), (6, .int .i64 (j : Int))]) _
      ⟨A.length, A.length + 1, a0, r2, rfl, by omega, hAl, rfl, rfl, by rw [hl0]; simpa using h2, by rw [hl0, hr]; simp, up.mono fun _ _ h => h.elim, hO, ⟨rfl, rfl, rfl, rfl, trivial⟩⟩ ?_)
    clear hO up h1 h2 hr hl0 hAl hy
    rintro n ρ w2 ⟨i, j, c, q, rfl, hij, hj, hcl, hcd, hd, hcr, up, hO, hh⟩
    refine hh.cw fun ρ => ?_
    clear hh
    refine cw_seq fun K7 k7 => ?_
    refine cw_seq fun K6 k6 => ?_
    refine cw_region (sv (mvv (.int .i64 (j : Int)) rfl) (sv (mvv v0 rfl) (sv (rv_lenS el49 hO.sealed rfl) (sv (rv_lss rfl rfl) (W.e (k6 _ _ ?_))))))
    by_cases hlt : j < a0.length
    · refine cw_t rfl (by rw [hcl]; simp; omega) (cw_skip (k7 _ _ ?_))
      obtain ⟨x, hx⟩ : ∃ x, c[j]? = some x := ⟨_, List.getElem?_eq_getElem (by omega)⟩
      have hax : a0[j]? = some x := by
        have h1 : (c.drop j)[0]? = c[j]? := by simp
        have h2 : (a0.drop j)[0]? = a0[j]? := by simp
        rw [← h2, ← hcd, h1, hx]
      have hat : at_ c (j : Int) = some x := by simp [at_, hx]
      have hdr : a0.drop j = x :: a0.drop (j + 1) := by
        have := List.drop_eq_getElem_cons hlt
        rw [List.getElem?_eq_getElem hlt] at hax
        rw [this, osi hax]
      have hcd1 : c.drop (j + 1) = a0.drop (j + 1) := by
        have := congrArg (List.drop 1) hcd
        rw [List.drop_drop, List.drop_drop] at this
        exact this
      rw [hdr] at hd
      obtain ⟨b, hb, hd⟩ := bnd_some hd
      refine cw_seq fun K8 k8 => ?_
      refine cw_block ?_
      refine cw_seq fun K9 k9 => ?_
      obtain ⟨v, hv, hl⟩ := rw_loadO (P := Tryz.prog) el49 hO hat
      refine cw_region (sv (mvv v0 rfl) (sv (mvv (.int .i64 (j : Int)) rfl) (sv (rv_index el49 hO.sealed rfl rfl hat) (sr (hl _ (Sm.refl _ _) rfl) (sv (asv v rfl) (W.e (k9 _ _ ?_)))))))
      refine cw_seq fun K10 k10 => ?_
      refine cw_region (sv (mvv (.func (.func f) #[] cs.toArray) rfl) (sv (mvv v rfl) (sc (dc_callC (vs := [v]) rfl hc rfl ?_))))
      refine (hf x w2 v up hv b hb).mono ?_
      rintro _ w3 ⟨rfl, up2⟩
      refine ⟨_, rfl, sv (rv_not rfl) (W.e (k10 _ _ ?_))⟩
      replace hO := hO.nw up2
      replace hv := hv.nw up2
      replace up := up.trans (up2.mono fun _ _ h => h.elim)
      cases b with
      | true =>
        refine cw_f rfl rfl (cw_skip (k8 _ _ ?_))
        refine cw_region (sv (mvv (.int .i64 (j : Int)) rfl) (sv (rv_add (r := ((j + 1 : Nat) : Int)) rfl rfl (by rw [IntKind.wrap_i64]; simp; omega)) (sv (asv (.int .i64 ((j + 1 : Nat) : Int)) rfl) (W.e ?_))))
        exact ⟨_, by omega, i, j + 1, c, q, rfl, by omega, by omega, hcl, hcd1, hd, hcr, up, hO, ⟨rfl, rfl, rfl, rfl, trivial⟩⟩
      | false =>
        obtain ⟨q', hq, hd2⟩ := bnd_some hd
        cases hd2
        refine cw_t rfl rfl ?_
        refine cw_seq fun K11 k11 => ?_
        obtain ⟨z, hz⟩ : ∃ z, c[i]? = some z := ⟨_, List.getElem?_eq_getElem (by omega)⟩
        have haz : at_ c (i : Int) = some z := by simp [at_, hz]
        refine cw_region (sv (mvv v0 rfl) (sv (mvv (.int .i64 (i : Int)) rfl) (sv (mvv v rfl) (sv (rv_index el49 hO.sealed rfl rfl haz) (sc (dc_storeO el49 hO haz rfl rfl hv fun w4 hO2 up4 => ?_))))))
        refine W.e (k11 _ _ ?_)
        refine cw_region (sv (mvv (.int .i64 (i : Int)) rfl) (sv (rv_add (r := ((i + 1 : Nat) : Int)) rfl rfl (by rw [IntKind.wrap_i64]; simp; omega)) (sv (asv (.int .i64 ((i + 1 : Nat) : Int)) rfl) (W.e (k8 _ _ ?_)))))
        refine cw_region (sv (mvv (.int .i64 (j : Int)) rfl) (sv (rv_add (r := ((j + 1 : Nat) : Int)) rfl rfl (by rw [IntKind.wrap_i64]; simp; omega)) (sv (asv (.int .i64 ((j + 1 : Nat) : Int)) rfl) (W.e ?_))))
        have hti : (c.set ((i : Int).toNat) x).take (i + 1) = c.take i ++ [x] := by
          rw [Int.toNat_natCast, List.take_add_one, List.getElem?_set_self (by omega), List.take_set_of_le (Nat.le_refl _)]
          rfl
        refine ⟨_, by omega, i + 1, j + 1, c.set ((i : Int).toNat) x, q', rfl, by omega, by omega, by rw [List.length_set]; exact hcl, ?_, hq, ?_, up.trans up4, hO2, ⟨rfl, rfl, rfl, rfl, trivial⟩⟩
        · rw [Int.toNat_natCast, List.drop_set_of_lt (by omega)]
          exact hcd1
        · rw [hti, List.append_assoc]
          exact hcr
    · refine cw_f rfl (by rw [hcl]; simp; omega) (cw_exit ?_)
      have h0 : a0.drop j = [] := List.drop_eq_nil_of_le (by omega)
      rw [h0] at hd
      cases hd
      rw [List.append_nil] at hcr
      exact ⟨i, c, up, hO, by omega, hcr, ⟨rfl, rfl, trivial⟩⟩
  · rintro ρ w2 ⟨i, c, up, hO, hic, hr, hh⟩
    refine hh.cw fun ρ => ?_
    clear hh
    obtain ⟨Av, cp, hv0, hcp, -, -⟩ := sl_slice.1 hO.sealed
    refine cw_seq fun K12 k12 => ?_
    refine cw_region (sv (mvv v0 rfl) (sv (mvv (.int .i64 (i : Int)) rfl) (sv (rv_suf el49 (Int.natCast_nonneg i) (by simpa using hic) hcp (Eq.trans (b := v0) rfl hv0) rfl) (sc (dc_clearO el49 zr3 (by intro c hc; rw [List.mem_singleton.1 hc]; rfl) hO (upto_take hic) (fun A' n' c' e => by obtain ⟨rfl, rfl, rfl⟩ := Value.slice.inj (hv0.symm.trans e); rfl) fun w3 u hu hub hur up3 => ?_)))))
    refine W.e (k12 _ _ ?_)
    refine cw_seq fun K13 k13 => ?_
    refine cw_region (sv (mvv v0 rfl) (sv (mvv (.int .i64 (i : Int)) rfl) (sv (hur rfl rfl) (sv (asv u rfl) (W.e (k13 _ _ (cw_ret ?_)))))))
    rw [hr] at hu
    exact ⟨_, rfl, u, rfl, up.trans up3, hu, fun b hb => .inl (hub b hb)⟩


theorem slices_IndexFunc_api_Label_api_Label_w {S : Nat → Prop} {w : World} {a0 : List api_Label} {v0 : Value} {f : FuncId} {cs : List Value} {p : api_Label → Option Bool} {r : Int} (hS : Sb S w) (h0 : Sl (kSl api_Label.k) S w v0 a0) (hc : CanE Tryz.prog f = true)
    (hf : ∀ x w' v, Up No w w' → Sl api_Label.k S w' v x → ∀ b, p x = some b → Calls Tryz.prog f ([v] ++ cs).toArray w' fun e w1 => e = .returned (.bool b) ∧ Up No w' w1) (h : indexFunc_ p a0 0 = some r) :
    Calls Tryz.prog 124 (List.toArray [v0, .func (.func f) #[] cs.toArray]) w fun e w1 => e = .returned (.int .i64 r) ∧ Up No w w1 := by
  refine enter Tryz.func124 rfl (by kernel_rfl) rfl ?_
  have hlim : a0.length ≤ lim := by obtain ⟨_, _, _, _, hl, _⟩ := sl_slice.1 h0; exact hl
  refine cw_seq fun K0 k0 => ?_
  refine cw_region (sv (asv (.int .i64 0) rfl) (W.e (k0 _ _ ?_)))
  refine cw_seq' (fun ρ w1 => Up No w w1 ∧ r = -1) ?_ ?_
  · refine cw_seq fun K1 k1 => ?_
    refine cw_region (sv (mvv v0 rfl) ?_)
    refine sv (rv_lenS el31 h0 rfl) (sv (mvv (.int .i64 0) rfl) (W.e (k1 _ _ ?_)))
    refine cw_block (cw_loop (fun n ρ w1 => ∃ i, n = a0.length - i ∧ i ≤ a0.length ∧ Up No w w1 ∧ indexFunc_ p (a0.drop i) (i : Int) = some r ∧ Has ρ [(0, v0), (1, .func (.func f) #[] cs.toArray), (7, .int .i64 (a0.length : Int)), (8, .int .i64 (i : Int))]) _ ⟨0, rfl, Nat.zero_le _, Up.refl _ _, h, ⟨rfl, rfl, rfl, rfl, trivial⟩⟩ ?_)
    rintro n ρ w1 ⟨i, rfl, hi, up, hr, hh⟩
    refine hh.cw fun ρ => ?_
    clear hh
    refine cw_seq fun K2 k2 => ?_
    refine cw_region (sv (rv_lss rfl rfl) (W.e (k2 _ _ ?_)))
    refine cw_seq fun K3 k3 => ?_
    by_cases hlt : i < a0.length
    · refine cw_t rfl (by simp; omega) (cw_skip (k3 _ _ ?_))
      obtain ⟨x, hx⟩ : ∃ x, a0[i]? = some x := ⟨_, List.getElem?_eq_getElem hlt⟩
      have hat : at_ a0 (i : Int) = some x := by simp [at_, hx]
      have hd : a0.drop i = x :: a0.drop (i + 1) := by
        have := List.drop_eq_getElem_cons hlt
        rw [List.getElem?_eq_getElem hlt] at hx
        rw [this, osi hx]
      rw [hd] at hr
      obtain ⟨b, hb, hr⟩ := bnd_some hr
      refine cw_seq fun K4 k4 => ?_
      refine cw_block ?_
      refine cw_seq fun K5 k5 => ?_
      refine cw_region (sv (mvv (.int .i64 (i : Int)) rfl) (sv (asv (.int .i64 (i : Int)) rfl) (W.e (k5 _ _ ?_))))
      refine cw_seq fun K6 k6 => ?_
      have h1 := h0.nw up
      refine cw_region (sv (mvv (.func (.func f) #[] cs.toArray) rfl) (sv (mvv v0 rfl) (sv (mvv (.int .i64 (i : Int)) rfl) ?_)))
      refine sv (rv_index el31 h1 rfl rfl hat) ?_
      obtain ⟨v, hv, hl⟩ := rw_loadA (P := Tryz.prog) el31 h1 hat
      refine sr (hl _ (Sm.refl _ _) rfl) ?_
      refine sc (dc_callC (vs := [v]) rfl hc rfl ?_)
      refine (hf x w1 v up hv b hb).mono ?_
      rintro _ w2 ⟨rfl, up2⟩
      refine ⟨_, rfl, W.e (k6 _ _ ?_)⟩
      cases b with
      | true =>
        refine cw_t rfl rfl ?_
        refine cw_seq fun K7 k7 => ?_
        refine cw_region (sv (mvv (.int .i64 (i : Int)) rfl) (sv (asv (.int .i64 (i : Int)) rfl) (W.e (k7 _ _ (cw_ret ?_)))))
        obtain rfl := osi hr
        exact ⟨_, rfl, rfl, up.trans up2⟩
      | false =>
        refine cw_f rfl rfl (cw_skip (k4 _ _ ?_))
        unfold lim at hlim
        refine cw_region (sv (rv_add (r := ((i + 1 : Nat) : Int)) rfl rfl (by rw [IntKind.wrap_i64]; simp; omega)) (sv (mvv (.int .i64 ((i + 1 : Nat) : Int)) rfl) (W.e ?_)))
        exact ⟨_, by omega, i + 1, rfl, by omega, up.trans up2, by simpa using hr, ⟨rfl, rfl, rfl, rfl, trivial⟩⟩
    · refine cw_f rfl (by simp; omega) (cw_exit ?_)
      have : a0.drop i = [] := List.drop_eq_nil_of_le (by omega)
      rw [this] at hr
      exact ⟨up, (osi hr).symm⟩
  · rintro ρ w1 ⟨up, rfl⟩
    refine cw_seq fun K1 k1 => ?_
    refine cw_region (sv (asv (.int .i64 (-1)) rfl) (W.e (k1 _ _ (cw_ret ?_))))
    exact ⟨_, rfl, rfl, up⟩

noncomputable def label_Get_1 (a0 : api_Label) (q0 : ByteArray) : Option Bool :=
  some (strEq a0.Name q0)
theorem label_Get_1_w {S : Nat → Prop} {w : World} {a0 : api_Label} {q0 : ByteArray} {v0 : Value} {bb0 : Nat} {r : Bool} (hS : Sb S w) (h0 : Sl api_Label.k S w v0 a0) (hb0 : Bs S w bb0 [.string q0] 9) (h : label_Get_1 a0 q0 = some r) :
    Calls Tryz.prog 125 (List.toArray [v0, .pointer (some ⟨bb0, 0, none⟩)]) w fun e w1 => ∃ S1, e = .returned (.bool r) ∧ Cx No S w S1 w1 := by
  refine enter Tryz.func125 rfl (by kernel_rfl) rfl ?_
  have C := Cx.refl (F := No) hS
  unfold label_Get_1 at h
  obtain rfl := api_Label.o.1 h0
  refine cw_seq fun K1 k2 => ?_
  refine cw_region ?_
  refine sc (dc_boxS C.sb rfl fun b3 S4 w5 c6 h7 => ?_)
  replace hb0 := hb0.cx c6
  replace C := C.trans c6
  refine sv (asv (.bool false) rfl) (W.e (k2 _ _ ?_))
  refine cw_seq fun K9 k10 => ?_
  refine cw_region (sv (rv_fieldAddr st46 rfl rfl) (sr (rw_bk ag9 h7.2 rfl rfl) (sr (rw_bk ag9 hb0.2 rfl rfl) (sv (rv_seql rfl rfl) (sv (asv (.bool (strEq a0.Name q0)) rfl) (W.e (k10 _ _ (cw_ret ?_))))))))
  obtain rfl := osi h
  exact ⟨_, rfl, _, rfl, C⟩

noncomputable def label_Get (a0 : List api_Label) (a1 : ByteArray) : Option (ByteArray × Bool) :=
  ((indexFunc_ (fun x => label_Get_1 x a1) a0 0).bind fun y11 => (bif (decide (y11 < (0 : Int))) then some (ByteArray.empty, false) else ((at_ a0 y11).bind fun y24 => some (y24.Val, true))))
theorem label_Get_w {S : Nat → Prop} {w : World} {a0 : List api_Label} {a1 : ByteArray} {v0 : Value} {r : ByteArray × Bool} (hS : Sb S w) (h0 : Sl (kSl api_Label.k) S w v0 a0) (h : label_Get a0 a1 = some r) :
    Calls Tryz.prog 97 (List.toArray [v0, .string a1]) w fun e w1 => ∃ S1, e = .returned (.tuple (List.toArray [.string r.1, .bool r.2])) ∧ Cx No S w S1 w1 := by
  refine enter Tryz.func97 rfl (by kernel_rfl) rfl ?_
  have C := Cx.refl (F := No) hS
  unfold label_Get at h
  refine cw_seq fun K1 k2 => ?_
  refine cw_region ?_
  refine sc (dc_boxS C.sb rfl fun b3 S4 w5 c6 h7 => ?_)
  replace h0 := h0.cx c6
  replace C := C.trans c6
  refine sv (asv (.string ByteArray.empty) rfl) (sv (asv (.bool false) rfl) (W.e (k2 _ _ ?_)))
  refine cw_seq fun K9 k10 => ?_
  refine cw_region (sv (mvv v0 rfl) (sv (rv_mkfn (vs := [.pointer (some ⟨b3, 0, none⟩)]) rfl) ?_))
  obtain ⟨y11, h12, h⟩ := bnd_some h
  refine sc (dc_call (vs := [v0, .func (.func 125) #[] (List.toArray [.pointer (some ⟨b3, 0, none⟩)])]) can124 rfl ?_)
  have h12f : ∀ (x : api_Label) (w' : World) (v : Value), Up No w5 w' → Sl api_Label.k S4 w' v x → ∀ b, label_Get_1 x a1 = some b → Calls Tryz.prog 125 (List.toArray ([v] ++ [.pointer (some ⟨b3, 0, none⟩)])) w' (fun e w1 => e = .returned (.bool b) ∧ Up No w' w1) := fun x w' v hu hx b hb => by skip; exact (label_Get_1_w (C.sb.up hu) hx (h7.nw hu) hb).mono fun e w1 hp => (by obtain ⟨S1, rfl, c⟩ := hp; exact ⟨rfl, c.up⟩ : e = .returned (.bool b) ∧ Up No w' w1)
  refine (slices_IndexFunc_api_Label_api_Label_w C.sb h0 can125 h12f h12).mono ?_
  rintro _ w13 ⟨rfl, u14⟩
  refine ⟨_, rfl, ?_⟩
  replace h0 := h0.nw u14
  replace C := C.new u14
  refine sv (asv (.int .i64 y11) rfl) (W.e (k10 _ _ ?_))
  refine cw_seq fun K15 k16 => ?_
  refine cw_seq fun K17 k18 => ?_
  refine cw_region (sv (mvv (.int .i64 y11) rfl) (sv (rv_lss rfl rfl) (W.e (k18 _ _ ?_))))
  rcases bif_some h with ⟨b19, h⟩ | ⟨b19, h⟩
  · refine cw_t rfl b19 ?_
    refine cw_seq fun K20 k21 => ?_
    refine cw_region (sv (asv (.string ByteArray.empty) rfl) (sv (asv (.bool false) rfl) (W.e (k21 _ _ (cw_ret ?_)))))
    obtain rfl := osi h
    exact ⟨_, rfl, _, rfl, C⟩
  · refine cw_f rfl b19 (cw_skip (k16 _ _ ?_))
    refine cw_seq fun K22 k23 => ?_
    refine cw_region (sv (mvv v0 rfl) (sv (mvv (.int .i64 y11) rfl) ?_))
    obtain ⟨y24, h25, h⟩ := bnd_some h
    refine sv (rv_index el31 h0 rfl rfl h25) (sv (rv_fieldAddr st46 rfl rfl) ?_)
    obtain ⟨cs26, h27, h28⟩ := Sl.cells h0 h25
    obtain rfl := api_Label.r.1 h27
    refine sr (rw_el1 (off := 1) ag9 (h28 _ (Sm.refl _ _)) rfl rfl) (sv (asv (.string y24.Val) rfl) (sv (asv (.bool true) rfl) (W.e (k23 _ _ (cw_ret ?_)))))
    obtain rfl := osi h
    exact ⟨_, rfl, _, rfl, C⟩

noncomputable def internal_stringslite_HasPrefix (a0 : ByteArray) (a1 : ByteArray) : Option Bool :=
  ((bif (decide ((a1.size : Int) ≤ (a0.size : Int))) then ((supto_ a0 (a1.size : Int)).bind fun y8 => some (strEq y8 a1)) else some false).bind fun o3 => some o3)
theorem internal_stringslite_HasPrefix_w {S : Nat → Prop} {w : World} {a0 : ByteArray} {a1 : ByteArray} {r : Bool} (hS : Sb S w)  (h : internal_stringslite_HasPrefix a0 a1 = some r) :
    Calls Tryz.prog 126 (List.toArray [.string a0, .string a1]) w fun e w1 => ∃ S1, e = .returned (.bool r) ∧ Cx No S w S1 w1 := by
  refine enter Tryz.func126 rfl (by kernel_rfl) rfl ?_
  have C := Cx.refl (F := No) hS
  unfold internal_stringslite_HasPrefix at h
  refine cw_seq fun K1 k2 => ?_
  refine cw_region (sv (asv (.bool false) rfl) (W.e (k2 _ _ ?_)))
  obtain ⟨o3, h6, h⟩ := bnd_some h
  refine cw_seq' (fun ρ w1 => ∃ S1, Cx No S w S1 w1 ∧ Has ρ [(4, .bool o3)]) ?_ ?_
  · refine cw_region (sv (mvv (.string a0) rfl) (sv (rv_slen Tryz.underlying9 rfl) (sv (mvv (.string a1) rfl) (sv (rv_slen Tryz.underlying9 rfl) (sv (rv_geq rfl rfl) (sv (mvv (.bool (decide ((a1.size : Int) ≤ (a0.size : Int)))) rfl) ?_))))))
    rcases bif_some h6 with ⟨b7, h6⟩ | ⟨b7, h6⟩
    · refine W.v (gy rfl rfl rfl b7) (mvv (.string a0) rfl) (W.v (gy rfl rfl rfl b7) (mvv (.string a1) rfl) (W.v (gy rfl rfl rfl b7) (rv_slen Tryz.underlying9 rfl) ?_))
      obtain ⟨y8, h9, h6⟩ := bnd_some h6
      refine W.v (gy rfl rfl rfl b7) (rv_supto Tryz.underlying9 rfl rfl h9) (W.v (gy rfl rfl rfl b7) (mvv (.string a1) rfl) (W.v (gy rfl rfl rfl b7) (rv_seql rfl rfl) (sv (ptk (.bool (strEq y8 a1)) rfl b7 rfl) (sv (asv (.bool (strEq y8 a1)) rfl) (W.e ?_)))))
      obtain rfl := osi h6
      exact ⟨_, C, ⟨rfl, trivial⟩⟩
    · refine W.n (gn rfl rfl rfl b7) (W.n (gn rfl rfl rfl b7) (W.n (gn rfl rfl rfl b7) (W.n (gn rfl rfl rfl b7) (W.n (gn rfl rfl rfl b7) (W.n (gn rfl rfl rfl b7) (sv (pfk (.bool false) rfl b7 rfl) (sv (asv (.bool false) rfl) (W.e ?_))))))))
      obtain rfl := osi h6
      exact ⟨_, C, ⟨rfl, trivial⟩⟩
  · rintro ρ w11 ⟨S10, C, h12⟩
    refine h12.cw fun ρ => ?_
    clear h12
    refine cw_ret ?_
    obtain rfl := osi h
    exact ⟨_, rfl, _, rfl, C⟩

noncomputable def strings_HasPrefix (a0 : ByteArray) (a1 : ByteArray) : Option Bool :=
  ((internal_stringslite_HasPrefix a0 a1).bind fun y5 => some y5)
theorem strings_HasPrefix_w {S : Nat → Prop} {w : World} {a0 : ByteArray} {a1 : ByteArray} {r : Bool} (hS : Sb S w)  (h : strings_HasPrefix a0 a1 = some r) :
    Calls Tryz.prog 98 (List.toArray [.string a0, .string a1]) w fun e w1 => ∃ S1, e = .returned (.bool r) ∧ Cx No S w S1 w1 := by
  refine enter Tryz.func98 rfl (by kernel_rfl) rfl ?_
  have C := Cx.refl (F := No) hS
  unfold strings_HasPrefix at h
  refine cw_seq fun K1 k2 => ?_
  refine cw_region (sv (asv (.bool false) rfl) (W.e (k2 _ _ ?_)))
  refine cw_seq fun K3 k4 => ?_
  refine cw_region (sv (mvv (.string a0) rfl) (sv (mvv (.string a1) rfl) ?_))
  obtain ⟨y5, h6, h⟩ := bnd_some h
  refine sc (dc_call (vs := [.string a0, .string a1]) can126 rfl ?_)
  refine (internal_stringslite_HasPrefix_w C.sb  h6).mono ?_
  rintro _ w7 ⟨S8, rfl, c9⟩
  refine ⟨_, rfl, ?_⟩
  replace C := C.trans c9
  refine sv (asv (.bool y5) rfl) (W.e (k4 _ _ (cw_ret ?_)))
  obtain rfl := osi h
  exact ⟨_, rfl, _, rfl, C⟩

end Go.Proofs.YtikdgllagijidaaGreat
