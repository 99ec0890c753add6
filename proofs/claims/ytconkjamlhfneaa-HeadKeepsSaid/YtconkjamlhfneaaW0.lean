/- What each function computes, and that the program computes it (part 0). Printed by gen.py, a program of this session. -/
import Derived.Test.YtconkjamlhfneaaProg
import Derived.Test.YtconkjamlhfneaaMgS
import Derived.Test.YtconkjamlhfneaaMgV
import Derived.Test.YtconkjamlhfneaaMgO
import Derived.Test.YtconkjamlhfneaaMgM
import Derived.Test.YtconkjamlhfneaaMgI
import Derived.Test.YtconkjamlhfneaaMgAr
import Derived.Test.YtconkjamlhfneaaMgRg
import Derived.Test.YtconkjamlhfneaaShelf
set_option linter.unusedVariables false
namespace Go.Proofs.Ytconkjamlhfneaa
open Go Go.Mg
structure api_Point where
  T : Int
  V : Int

def api_Point.k : Kd api_Point := kIso (kAgg (kPair (kI .i64) (kI .i64))) fun x => (x.T, x.V)
theorem api_Point.r {S : Nat → Prop} {w : World} {cs : List Value} {x : api_Point} : api_Point.k.rep S w cs x ↔ cs = [.int .i64 x.T, .int .i64 x.V] := by
  constructor
  · rintro ⟨d0, e0, rfl, h0, h1⟩
    have h0 := rep_sc.1 h0; subst h0
    have h1 := rep_sc.1 h1; subst h1
    rfl
  · rintro rfl
    exact ⟨_, _, rfl, (rep_sc.2 rfl), (rep_sc.2 rfl)⟩
theorem api_Point.o {S : Nat → Prop} {w : World} {v : Value} {x : api_Point} : Sl api_Point.k S w v x ↔ v = .agg (List.toArray [.int .i64 x.T, .int .i64 x.V]) := by
  constructor
  · rintro ⟨cs, rfl, h⟩
    rw [api_Point.r.1 h]; rfl
  · rintro rfl
    exact ⟨_, rfl, api_Point.r.2 rfl⟩

structure api_Chunk where
  Id : Int
  Points : List api_Point

def api_Chunk.k : Kd api_Chunk := kIso (kAgg (kPair (kI .i64) (kSl api_Point.k))) fun x => (x.Id, x.Points)
theorem api_Chunk.r {S : Nat → Prop} {w : World} {cs : List Value} {x : api_Chunk} : api_Chunk.k.rep S w cs x ↔ ∃ c1 : Value, cs = [.int .i64 x.Id, c1] ∧ Sl (kSl api_Point.k) S w c1 x.Points := by
  constructor
  · rintro ⟨d0, e0, rfl, h0, h1⟩
    have h0 := rep_sc.1 h0; subst h0
    obtain ⟨_, q1, k1⟩ := rep_sl.1 h1; subst q1
    exact ⟨_, rfl, k1⟩
  · rintro ⟨c1, rfl, g0⟩
    exact ⟨_, _, rfl, (rep_sc.2 rfl), (rep_sl.2 ⟨_, rfl, g0⟩)⟩
theorem api_Chunk.o {S : Nat → Prop} {w : World} {v : Value} {x : api_Chunk} : Sl api_Chunk.k S w v x ↔ ∃ c1 : Value, v = .agg (List.toArray [.int .i64 x.Id, c1]) ∧ Sl (kSl api_Point.k) S w c1 x.Points := by
  constructor
  · rintro ⟨cs, rfl, h⟩
    obtain ⟨c1, rfl, g0⟩ := api_Chunk.r.1 h
    exact ⟨c1, rfl, g0⟩
  · rintro ⟨c1, rfl, g0⟩
    exact ⟨_, rfl, api_Chunk.r.2 ⟨c1, rfl, g0⟩⟩

structure marigraphlaw11_Act where
  Kind : Int
  Id : Int
  P : api_Point

def marigraphlaw11_Act.k : Kd marigraphlaw11_Act := kIso (kAgg (kPair (kI .u8) (kPair (kI .i64) api_Point.k))) fun x => (x.Kind, (x.Id, x.P))
theorem marigraphlaw11_Act.r {S : Nat → Prop} {w : World} {cs : List Value} {x : marigraphlaw11_Act} : marigraphlaw11_Act.k.rep S w cs x ↔ cs = [.int .u8 x.Kind, .int .i64 x.Id, .int .i64 x.P.T, .int .i64 x.P.V] := by
  constructor
  · rintro ⟨d0, e0, rfl, h0, ⟨d1, e1, rfl, h1, h2⟩⟩
    have h0 := rep_sc.1 h0; subst h0
    have h1 := rep_sc.1 h1; subst h1
    have h2 := api_Point.r.1 h2; subst h2
    rfl
  · rintro rfl
    exact ⟨_, _, rfl, (rep_sc.2 rfl), ⟨_, _, rfl, (rep_sc.2 rfl), (api_Point.r.2 rfl)⟩⟩
theorem marigraphlaw11_Act.o {S : Nat → Prop} {w : World} {v : Value} {x : marigraphlaw11_Act} : Sl marigraphlaw11_Act.k S w v x ↔ v = .agg (List.toArray [.int .u8 x.Kind, .int .i64 x.Id, .int .i64 x.P.T, .int .i64 x.P.V]) := by
  constructor
  · rintro ⟨cs, rfl, h⟩
    rw [marigraphlaw11_Act.r.1 h]; rfl
  · rintro rfl
    exact ⟨_, rfl, marigraphlaw11_Act.r.2 rfl⟩

structure marigraphref11_Item where
  Id : Int
  P : api_Point

def marigraphref11_Item.k : Kd marigraphref11_Item := kIso (kAgg (kPair (kI .i64) api_Point.k)) fun x => (x.Id, x.P)
theorem marigraphref11_Item.r {S : Nat → Prop} {w : World} {cs : List Value} {x : marigraphref11_Item} : marigraphref11_Item.k.rep S w cs x ↔ cs = [.int .i64 x.Id, .int .i64 x.P.T, .int .i64 x.P.V] := by
  constructor
  · rintro ⟨d0, e0, rfl, h0, h1⟩
    have h0 := rep_sc.1 h0; subst h0
    have h1 := api_Point.r.1 h1; subst h1
    rfl
  · rintro rfl
    exact ⟨_, _, rfl, (rep_sc.2 rfl), (api_Point.r.2 rfl)⟩
theorem marigraphref11_Item.o {S : Nat → Prop} {w : World} {v : Value} {x : marigraphref11_Item} : Sl marigraphref11_Item.k S w v x ↔ v = .agg (List.toArray [.int .i64 x.Id, .int .i64 x.P.T, .int .i64 x.P.V]) := by
  constructor
  · rintro ⟨cs, rfl, h⟩
    rw [marigraphref11_Item.r.1 h]; rfl
  · rintro rfl
    exact ⟨_, rfl, marigraphref11_Item.r.2 rfl⟩

structure arr42 where
  e0 : Int
  e1 : Int

def arr42.k : Kd arr42 := kIso (kAgg (kPair (kI .i64) (kI .i64))) fun x => (x.e0, x.e1)
theorem arr42.r {S : Nat → Prop} {w : World} {cs : List Value} {x : arr42} : arr42.k.rep S w cs x ↔ cs = [.int .i64 x.e0, .int .i64 x.e1] := by
  constructor
  · rintro ⟨d0, e0, rfl, h0, h1⟩
    have h0 := rep_sc.1 h0; subst h0
    have h1 := rep_sc.1 h1; subst h1
    rfl
  · rintro rfl
    exact ⟨_, _, rfl, (rep_sc.2 rfl), (rep_sc.2 rfl)⟩
theorem arr42.o {S : Nat → Prop} {w : World} {v : Value} {x : arr42} : Sl arr42.k S w v x ↔ v = .agg (List.toArray [.int .i64 x.e0, .int .i64 x.e1]) := by
  constructor
  · rintro ⟨cs, rfl, h⟩
    rw [arr42.r.1 h]; rfl
  · rintro rfl
    exact ⟨_, rfl, arr42.r.2 rfl⟩

structure marigraphref11_Head where
  Window : Int
  L : List marigraphref11_Item
  Last : Int
  Any : Bool

def marigraphref11_Head.k : Kd marigraphref11_Head := kIso (kAgg (kPair (kI .i64) (kPair (kSl marigraphref11_Item.k) (kPair (kI .i64) kB)))) fun x => (x.Window, (x.L, (x.Last, x.Any)))
theorem marigraphref11_Head.r {S : Nat → Prop} {w : World} {cs : List Value} {x : marigraphref11_Head} : marigraphref11_Head.k.rep S w cs x ↔ ∃ c1 : Value, cs = [.int .i64 x.Window, c1, .int .i64 x.Last, .bool x.Any] ∧ Sl (kSl marigraphref11_Item.k) S w c1 x.L := by
  constructor
  · rintro ⟨d0, e0, rfl, h0, ⟨d1, e1, rfl, h1, ⟨d2, e2, rfl, h2, h3⟩⟩⟩
    have h0 := rep_sc.1 h0; subst h0
    obtain ⟨_, q1, k1⟩ := rep_sl.1 h1; subst q1
    have h2 := rep_sc.1 h2; subst h2
    have h3 := rep_sc.1 h3; subst h3
    exact ⟨_, rfl, k1⟩
  · rintro ⟨c1, rfl, g0⟩
    exact ⟨_, _, rfl, (rep_sc.2 rfl), ⟨_, _, rfl, (rep_sl.2 ⟨_, rfl, g0⟩), ⟨_, _, rfl, (rep_sc.2 rfl), (rep_sc.2 rfl)⟩⟩⟩
theorem marigraphref11_Head.o {S : Nat → Prop} {w : World} {v : Value} {x : marigraphref11_Head} : Sl marigraphref11_Head.k S w v x ↔ ∃ c1 : Value, v = .agg (List.toArray [.int .i64 x.Window, c1, .int .i64 x.Last, .bool x.Any]) ∧ Sl (kSl marigraphref11_Item.k) S w c1 x.L := by
  constructor
  · rintro ⟨cs, rfl, h⟩
    obtain ⟨c1, rfl, g0⟩ := marigraphref11_Head.r.1 h
    exact ⟨c1, rfl, g0⟩
  · rintro ⟨c1, rfl, g0⟩
    exact ⟨_, rfl, marigraphref11_Head.r.2 ⟨c1, rfl, g0⟩⟩

set_option maxRecDepth 100000 in
theorem zr67 : zeroOf Try.prog 67 = some [.int .i64 0, .map none, .int .i64 0, .int .i64 0, .bool false] := by kernel_rfl
set_option maxRecDepth 100000 in
theorem st67 : stOf Try.prog 67 = some [(0, 1, false), (1, 1, false), (2, 1, false), (3, 1, false), (4, 1, false)] := by kernel_rfl
set_option maxRecDepth 100000 in
theorem can11 : CanE Try.prog 11 = true := by kernel_rfl
set_option maxRecDepth 100000 in
theorem st29 : stOf Try.prog 29 = some [(0, 1, false), (1, 1, false)] := by kernel_rfl
set_option maxRecDepth 100000 in
theorem zr29 : zeroOf Try.prog 29 = some [.int .i64 0, .int .i64 0] := by kernel_rfl
set_option maxRecDepth 100000 in
theorem fol : Try.prog.follows .mixedOrders = true := by kernel_rfl
set_option maxRecDepth 100000 in
theorem ag3 : aggOf Try.prog 3 = some (false, 1) := by kernel_rfl
set_option maxRecDepth 100000 in
theorem ag4 : aggOf Try.prog 4 = some (false, 1) := by kernel_rfl
set_option maxRecDepth 100000 in
theorem can30 : CanE Try.prog 30 = true := by kernel_rfl
set_option maxRecDepth 100000 in
theorem el33 : El Try.prog api_Point.k 33 29 16 := { hi := ⟨_, _, rfl, rfl, rfl, rfl, rfl⟩, hs := by decide, ag := by kernel_rfl, ht := by kernel_rfl }
set_option maxRecDepth 100000 in
theorem can49 : CanE Try.prog 49 = true := by kernel_rfl
set_option maxRecDepth 100000 in
theorem can42 : CanE Try.prog 42 = true := by kernel_rfl
set_option maxRecDepth 100000 in
theorem can32 : CanE Try.prog 32 = true := by kernel_rfl
set_option maxRecDepth 100000 in
theorem zv33 : (Try.prog.info? 33).bind (·.zero) = some (.slice none 0 0) := by kernel_rfl
set_option maxRecDepth 100000 in
theorem can31 : CanE Try.prog 31 = true := by kernel_rfl
set_option maxRecDepth 100000 in
theorem can33 : CanE Try.prog 33 = true := by kernel_rfl
set_option maxRecDepth 100000 in
theorem ag29 : aggOf Try.prog 29 = some (true, 2) := by kernel_rfl
set_option maxRecDepth 100000 in
theorem ag65 : aggOf Try.prog 65 = some (false, 1) := by kernel_rfl
set_option maxRecDepth 100000 in
theorem can12 : CanE Try.prog 12 = true := by kernel_rfl
set_option maxRecDepth 100000 in
theorem el51 : El Try.prog (kI .i64) 51 3 8 := { hi := ⟨_, _, rfl, rfl, rfl, rfl, rfl⟩, hs := by decide, ag := by kernel_rfl, ht := by kernel_rfl }
set_option maxRecDepth 100000 in
theorem can39 : CanE Try.prog 39 = true := by kernel_rfl
set_option maxRecDepth 100000 in
theorem can20 : CanE Try.prog 20 = true := by kernel_rfl
set_option maxRecDepth 100000 in
theorem ag23 : aggOf Try.prog 23 = some (false, 1) := by kernel_rfl
set_option maxRecDepth 100000 in
theorem api_Point_flat : Flat api_Point.k := fun _ _ _ _ _ _ h => api_Point.r.2 (api_Point.r.1 h)
set_option maxRecDepth 100000 in
theorem can34 : CanE Try.prog 34 = true := by kernel_rfl
set_option maxRecDepth 100000 in
theorem can35 : CanE Try.prog 35 = true := by kernel_rfl
set_option maxRecDepth 100000 in
theorem can38 : CanE Try.prog 38 = true := by kernel_rfl
set_option maxRecDepth 100000 in
theorem can46 : CanE Try.prog 46 = true := by kernel_rfl
set_option maxRecDepth 100000 in
theorem can64 : CanE Try.prog 64 = true := by kernel_rfl
set_option maxRecDepth 100000 in
theorem can73 : CanE Try.prog 73 = true := by kernel_rfl
set_option maxRecDepth 100000 in
theorem can71 : CanE Try.prog 71 = true := by kernel_rfl
set_option maxRecDepth 100000 in
theorem can65 : CanE Try.prog 65 = true := by kernel_rfl
set_option maxRecDepth 100000 in
theorem can51 : CanE Try.prog 51 = true := by kernel_rfl
set_option maxRecDepth 100000 in
theorem can45 : CanE Try.prog 45 = true := by kernel_rfl
set_option maxRecDepth 100000 in
theorem can36 : CanE Try.prog 36 = true := by kernel_rfl
set_option maxRecDepth 100000 in
theorem st35 : stOf Try.prog 35 = some [(0, 1, false), (1, 1, false)] := by kernel_rfl
set_option maxRecDepth 100000 in
theorem zr35 : zeroOf Try.prog 35 = some [.int .i64 0, .slice none 0 0] := by kernel_rfl
set_option maxRecDepth 100000 in
theorem el31 : El Try.prog api_Chunk.k 31 35 32 := { hi := ⟨_, _, rfl, rfl, rfl, rfl, rfl⟩, hs := by decide, ag := by kernel_rfl, ht := by kernel_rfl }
set_option maxRecDepth 100000 in
theorem can37 : CanE Try.prog 37 = true := by kernel_rfl
set_option maxRecDepth 100000 in
theorem can14 : CanE Try.prog 14 = true := by kernel_rfl
set_option maxRecDepth 100000 in
theorem eqs29 (a0 : Int) (a1 : Int) (b0 : Int) (b1 : Int) : vEq Try.prog Op.maxDepth 29 (.agg (List.toArray [.int .i64 a0, .int .i64 a1])) (.agg (List.toArray [.int .i64 b0, .int .i64 b1])) = some ((a0 == b0) && ((a1 == b1) && true)) := by kernel_rfl
set_option maxRecDepth 100000 in
theorem eqg29 : Try.prog.eqGuardType Try.prog.depth 29 = false := by kernel_rfl
set_option maxRecDepth 100000 in
theorem ag33 : aggOf Try.prog 33 = some (false, 1) := by kernel_rfl
set_option maxRecDepth 100000 in
theorem can15 : CanE Try.prog 15 = true := by kernel_rfl
set_option maxRecDepth 100000 in
theorem can23 : CanE Try.prog 23 = true := by kernel_rfl
set_option maxRecDepth 100000 in
theorem can10 : CanE Try.prog 10 = true := by kernel_rfl
set_option maxRecDepth 100000 in
theorem can13 : CanE Try.prog 13 = true := by kernel_rfl
set_option maxRecDepth 100000 in
theorem el37 : El Try.prog marigraphlaw11_Act.k 37 41 32 := { hi := ⟨_, _, rfl, rfl, rfl, rfl, rfl⟩, hs := by decide, ag := by kernel_rfl, ht := by kernel_rfl }
set_option maxRecDepth 100000 in
theorem zr41 : zeroOf Try.prog 41 = some [.int .u8 0, .int .i64 0, .int .i64 0, .int .i64 0] := by kernel_rfl
set_option maxRecDepth 100000 in
theorem st41 : stOf Try.prog 41 = some [(0, 1, false), (1, 1, false), (2, 2, true)] := by kernel_rfl
set_option maxRecDepth 100000 in
theorem ag5 : aggOf Try.prog 5 = some (false, 1) := by kernel_rfl
set_option maxRecDepth 100000 in
theorem ar42 : arOf Try.prog 42 = some (2, 3, 1) := by kernel_rfl
set_option maxRecDepth 100000 in
theorem zr42 : zeroOf Try.prog 42 = some [.int .i64 0, .int .i64 0] := by kernel_rfl
set_option maxRecDepth 100000 in
theorem ag42 : aggOf Try.prog 42 = some (true, 2) := by kernel_rfl
set_option maxRecDepth 100000 in
theorem zv4 : (Try.prog.info? 4).bind (·.zero) = some (.bool false) := by kernel_rfl
set_option maxRecDepth 100000 in
theorem st44 : stOf Try.prog 44 = some [(0, 1, false), (1, 2, true)] := by kernel_rfl
set_option maxRecDepth 100000 in
theorem zr44 : zeroOf Try.prog 44 = some [.int .i64 0, .int .i64 0, .int .i64 0] := by kernel_rfl
set_option maxRecDepth 100000 in
theorem el38 : El Try.prog marigraphref11_Item.k 38 44 24 := { hi := ⟨_, _, rfl, rfl, rfl, rfl, rfl⟩, hs := by decide, ag := by kernel_rfl, ht := by kernel_rfl }
set_option maxRecDepth 100000 in
theorem can16 : CanE Try.prog 16 = true := by kernel_rfl
set_option maxRecDepth 100000 in
theorem can17 : CanE Try.prog 17 = true := by kernel_rfl
set_option maxRecDepth 100000 in
theorem can18 : CanE Try.prog 18 = true := by kernel_rfl
set_option maxRecDepth 100000 in
theorem can19 : CanE Try.prog 19 = true := by kernel_rfl
set_option maxRecDepth 100000 in
theorem can21 : CanE Try.prog 21 = true := by kernel_rfl
set_option maxRecDepth 100000 in
theorem eqs44 (a0 : Int) (a1 : Int) (a2 : Int) (b0 : Int) (b1 : Int) (b2 : Int) : vEq Try.prog Op.maxDepth 44 (.agg (List.toArray [.int .i64 a0, .int .i64 a1, .int .i64 a2])) (.agg (List.toArray [.int .i64 b0, .int .i64 b1, .int .i64 b2])) = some ((a0 == b0) && (((a1 == b1) && ((a2 == b2) && true)) && true)) := by kernel_rfl
set_option maxRecDepth 100000 in
theorem st62 : stOf Try.prog 62 = some [(0, 1, false), (1, 1, false), (2, 1, false), (3, 1, false)] := by kernel_rfl
set_option maxRecDepth 100000 in
theorem zr62 : zeroOf Try.prog 62 = some [.int .i64 0, .slice none 0 0, .int .i64 0, .bool false] := by kernel_rfl
set_option maxRecDepth 100000 in
theorem can22 : CanE Try.prog 22 = true := by kernel_rfl
set_option maxRecDepth 100000 in
theorem ag38 : aggOf Try.prog 38 = some (false, 1) := by kernel_rfl
set_option maxRecDepth 100000 in
theorem can28 : CanE Try.prog 28 = true := by kernel_rfl
set_option maxRecDepth 100000 in
theorem can41 : CanE Try.prog 41 = true := by kernel_rfl
set_option maxRecDepth 100000 in
theorem can29 : CanE Try.prog 29 = true := by kernel_rfl
set_option maxRecDepth 100000 in
theorem can40 : CanE Try.prog 40 = true := by kernel_rfl
set_option maxRecDepth 100000 in
theorem can24 : CanE Try.prog 24 = true := by kernel_rfl
set_option maxRecDepth 100000 in
theorem can25 : CanE Try.prog 25 = true := by kernel_rfl
set_option maxRecDepth 100000 in
theorem can26 : CanE Try.prog 26 = true := by kernel_rfl
set_option maxRecDepth 100000 in
theorem can27 : CanE Try.prog 27 = true := by kernel_rfl
noncomputable instance arr42_dec : DecidableEq arr42 := fun a b => Classical.propDecidable (a = b)
set_option maxRecDepth 100000 in
noncomputable def ky_arr42 : Ky Try.prog 42 arr42 := kyG Try.underlying42 (fun x => .agg (List.toArray [.int .i64 x.e0, .int .i64 x.e1])) (fun _ _ => rfl)
  (fun a b w => (eq_ar2 Try.underlying42 Try.underlying3 ag3 a.e0 a.e1 b.e0 b.e1 9998 w).trans (congrArg (fun q => Result.ok q w) (by rcases a with ⟨a0, a1⟩; rcases b with ⟨b0, b1⟩; apply Bool.eq_iff_iff.2; simp)))
  (fun _ _ _ => by kernel_rfl) (fun _ => same_agg rfl 9999)
noncomputable instance marigraphref11_Item_dec : DecidableEq marigraphref11_Item := fun a b => Classical.propDecidable (a = b)
set_option maxRecDepth 100000 in
noncomputable def ky_marigraphref11_Item : Ky Try.prog 44 marigraphref11_Item := kyG Try.underlying44 (fun x => .agg (List.toArray [.int .i64 x.Id, .int .i64 x.P.T, .int .i64 x.P.V])) (fun _ _ => rfl)
  (fun a b w => (run_vEq (eqs44 a.Id a.P.T a.P.V b.Id b.P.T b.P.V) w).trans (congrArg (fun q => Result.ok q w) (by rcases a with ⟨a0, ⟨a1_0, a1_1⟩⟩; rcases b with ⟨b0, ⟨b1_0, b1_1⟩⟩; apply Bool.eq_iff_iff.2; simp)))
  (fun _ _ _ => by kernel_rfl) (fun _ => same_agg rfl 9999)
structure head_Head where
  window : Int
  series : List (Int × List api_Point)
  many : Int
  last : Int
  any : Bool
noncomputable def head_Head.fs (x : head_Head) : List ((α : Type) × Fk α × α) :=
  [⟨_, fSl (kI .i64) rfl, x.window⟩, ⟨_, fMapO (kyI Try.underlying3) api_Point.k 29, x.series⟩, ⟨_, fSl (kI .i64) rfl, x.many⟩, ⟨_, fSl (kI .i64) rfl, x.last⟩, ⟨_, fSl kB rfl, x.any⟩]

noncomputable def marigraphref11_Head.fs (x : marigraphref11_Head) : List ((α : Type) × Fk α × α) :=
  [⟨_, fSl (kI .i64) rfl, x.Window⟩, ⟨_, fSl (kSl marigraphref11_Item.k) rfl, x.L⟩, ⟨_, fSl (kI .i64) rfl, x.Last⟩, ⟨_, fSl kB rfl, x.Any⟩]

noncomputable def head_New (a0 : Int) : Option ((Option head_Head) × Int) :=
  (((bif (decide (a0 < (0 : Int))) then some true else some (decide ((1099511627776 : Int) < a0))).bind fun o7 => (bif o7 then some (.inr (none, (1 : Int))) else some (.inl ()))).bind (Sum.elim (fun o3n => some (some (head_Head.mk a0 ([] : List (Int × List api_Point)) (0 : Int) (0 : Int) false), (0 : Int))) (fun q => some q)))
set_option maxRecDepth 100000 in
set_option maxHeartbeats 4000000 in
theorem head_New_w {S : Nat → Prop} {w : World} {a0 : Int} {r : (Option head_Head) × Int} (hS : Sb S w)  (h : head_New a0 = some r) :
    Calls Try.prog 11 (List.toArray [.int .i64 a0]) w fun e w1 => ∃ S1 u0 us0 up0, e = .returned (.tuple (List.toArray [u0, .int .i64 r.2])) ∧ Cx No S w S1 w1 ∧ Obo 67 head_Head.fs S1 w1 u0 r.1 us0 up0 ∧ (∀ b, b ∈ up0 → w.heap.size ≤ b) := by
  refine enter Try.func11 rfl (by kernel_rfl) rfl ?_
  have C := Cx.refl (F := No) hS
  unfold head_New at h
  refine cw_seq fun K1 k2 => ?_
  refine cw_region (sv (asv (.pointer none) rfl) (sv (asv (.int .i64 0) rfl) (W.e (k2 _ _ ?_))))
  obtain ⟨o3, h6, h⟩ := bnds_some h
  refine cw_seq' (fun ρ w1 => ∃ o3n, o3 = (.inl o3n) ∧ ∃ S1, Cx No S w S1 w1 ∧ Has ρ [(0, .int .i64 a0)]) ?_ ?_
  · obtain ⟨o7, h10, h6⟩ := bnd_some h6
    refine cw_seq' (fun ρ w1 => ∃ S1, Cx No S w S1 w1 ∧ Has ρ [(0, .int .i64 a0), (9, .bool o7)]) ?_ ?_
    · refine cw_region (sv (mvv (.int .i64 a0) rfl) (sv (rv_lss rfl rfl) (sv (mvv (.bool (decide (a0 < (0 : Int)))) rfl) ?_)))
      rcases bif_some h10 with ⟨b11, h10⟩ | ⟨b11, h10⟩
      · refine W.n (gn rfl rfl rfl b11) (W.n (gn rfl rfl rfl b11) (sv (ptk (.bool true) rfl b11 rfl) (W.e ?_)))
        obtain rfl := Option.some.inj h10
        exact ⟨_, C, ⟨rfl, rfl, trivial⟩⟩
      · refine W.v (gy rfl rfl rfl b11) (mvv (.int .i64 a0) rfl) (W.v (gy rfl rfl rfl b11) (rv_gtr rfl rfl) (sv (pfk (.bool (decide ((1099511627776 : Int) < a0))) rfl b11 rfl) (W.e ?_)))
        obtain rfl := Option.some.inj h10
        exact ⟨_, C, ⟨rfl, rfl, trivial⟩⟩
    · rintro ρ w13 ⟨S12, C, h14⟩
      refine h14.cw fun ρ => ?_
      clear h14
      rcases bif_some h6 with ⟨b15, h6⟩ | ⟨b15, h6⟩
      · refine cw_t rfl b15 ?_
        refine cw_seq fun K16 k17 => ?_
        refine cw_region (sv (asv (.pointer none) rfl) (sv (asv (.int .i64 1) rfl) (W.e (k17 _ _ (cw_ret ?_)))))
        obtain rfl := Option.some.inj h6
        replace h := h.2 _ rfl
        obtain rfl := Option.some.inj h
        exact ⟨_, rfl, _, _, _, _, rfl, C, ⟨rfl, rfl, rfl⟩, (fun b hb => by cases hb)⟩
      · refine cw_f rfl b15 (cw_skip ?_)
        obtain rfl := Option.some.inj h6
        exact ⟨_, rfl, ⟨_, C, ⟨rfl, trivial⟩⟩⟩
  · rintro ρ w19 ⟨o3n, rfl, ⟨S18, C, h20⟩⟩
    replace h := h.1 _ rfl
    refine h20.cw fun ρ => ?_
    clear h20
    refine cw_seq fun K21 k22 => ?_
    refine cw_region (sv (mvv (.int .i64 a0) rfl) ?_)
    refine sc (dc_mkmapO (kyI Try.underlying3) api_Point.k 29 C.sb fun c23 b24 w25 h26 h27 u28 => ?_)
    have h29 : Mo (fMapO (kyI Try.underlying3) api_Point.k 29) S18 w25 c23 ([] : List (Int × List api_Point)) [b24] := ⟨h27, by simp⟩
    have h30p := C.up.size
    have h30q : ∀ q, q ∈ [b24] → w19.heap.size ≤ q := fun q hq => by simp at hq; omega
    have h30 : ∀ q, q ∈ [b24] → w.heap.size ≤ q := fun q hq => Nat.le_trans C.up.size (h30q q hq)
    have h30r : b24 < w25.heap.size := (h29.lt b24 (by simp)).1
    replace C := C.new u28
    have h31 := Mo.cellsO h29
    refine sv (rv_build (r := [.int .i64 a0, c23, .int .i64 0, .int .i64 0, .bool false]) st67 zr67 (by obtain ⟨_, rfl⟩ := h31; rfl)) ?_
    refine sc (dc_obox (l := head_Head.fs (head_Head.mk a0 ([] : List (Int × List api_Point)) (0 : Int) (0 : Int) false)) (S := S18) (cs := [.int .i64 a0, c23, .int .i64 0, .int .i64 0, .bool false]) (.cons ⟨rep_sc.2 rfl, rfl⟩ (.cons h29.1 (.cons ⟨rep_sc.2 rfl, rfl⟩ (.cons ⟨rep_sc.2 rfl, rfl⟩ (.cons ⟨rep_sc.2 rfl, rfl⟩ (.nil)))))) (by simp) C.sb rfl fun v32 w33 h34 h35 u36 => ?_)
    have h38p := C.up.size
    obtain ⟨fp37, h34, h38⟩ : ∃ fp, Ob 67 (head_Head.fs (head_Head.mk a0 ([] : List (Int × List api_Point)) (0 : Int) (0 : Int) false)) S18 w33 v32 [.int .i64 a0, c23, .int .i64 0, .int .i64 0, .bool false] fp ∧ ∀ q, q ∈ fp → w.heap.size ≤ q := ⟨_, h34, fun q hq => by simp at hq; omega⟩
    replace C := C.new u36
    refine sv (asv v32 rfl) (sv (asv (.int .i64 0) rfl) (W.e (k22 _ _ (cw_ret ?_))))
    obtain rfl := Option.some.inj h
    exact ⟨_, rfl, _, _, _, _, rfl, C, h34, h38⟩

noncomputable def head_Head_far (a0 : head_Head) (a1 : Int) : Option Bool :=
  ((bif a0.any then (bif (decide (a1 < a0.last)) then (pur (IntKind.u64.wrap a0.last) fun y12 => (pur (IntKind.u64.wrap a1) fun y14 => (pur (IntKind.u64.wrap (y12 - y14)) fun y16 => (pur (IntKind.u64.wrap a0.window) fun y18 => some (decide (y18 < y16)))))) else some false) else some false).bind fun o3 => some o3)
set_option maxRecDepth 100000 in
set_option maxHeartbeats 4000000 in
theorem head_Head_far_w {S : Nat → Prop} {w : World} {a0 : head_Head} {a1 : Int} {v0 : Value} {cs0 : List Value} {fp0 : List Nat} {r : Bool} (hS : Sb S w) (h0 : Ob 67 (head_Head.fs a0) S w v0 cs0 fp0) (h : head_Head_far a0 a1 = some r) :
    Calls Try.prog 30 (List.toArray [v0, .int .i64 a1]) w fun e w1 => ∃ S1, e = .returned (.bool r) ∧ Cx No S w S1 w1 := by
  refine enter Try.func30 rfl (by kernel_rfl) rfl ?_
  have C := Cx.refl (F := No) hS
  unfold head_Head_far at h
  have hl0 : ∀ b ∈ fp0, b < w.heap.size := fun b hb => (h0.lt b hb).1
  refine cw_seq fun K1 k2 => ?_
  refine cw_region (sv (asv (.bool false) rfl) (W.e (k2 _ _ ?_)))
  obtain ⟨o3, h6, h⟩ := bnd_some h
  refine cw_seq' (fun ρ w1 => ∃ S1, Cx No S w S1 w1 ∧ Has ρ [(4, .bool o3)]) ?_ ?_
  · refine cw_drawU (.one 0 true (.one 1 true (.one 2 true (.one 3 true (.one 4 true (.one 5 true (.one 6 true (.one 7 true (.one 8 true (.one 9 true (.one 10 true (.one 11 true (.one 12 true (.one 13 true (.one 14 true (.one 15 true (.one 16 true (.one 17 true (.one 18 true (.one 19 true (.one 20 true (.one 21 true (.one 22 true (.one 23 true (.one 24 true (.one 25 true (.one 26 true (.one 27 true (.one 28 true .done))))))))))))))))))))))))))))) [(3, [9]), (9, [9]), (16, [9]), (24, [9])] [] (fun c => bif Nat.beq c 9 then (fun _ => True) else No) fol (by kernel_rfl) fun w7 u8 => ?_
    replace h0 := h0.nw u8
    replace C := C.new u8
    have m9 := Sm.refl (fun _ => True) w7
    refine mtv rfl rfl (mvv v0 rfl) (mtv rfl rfl (rv_nilcheck rfl h0.ptr) (mtv rfl rfl (rv_fieldAddr (b := pb v0) (o := 0) st67 rfl h0.ptr) (mtr rfl rfl ⟨m9, trivial⟩ (fun w' hq => rw_ofieldU (i := 4) (c := .bool a0.any) h0 (hq.1.mono fun _ _ => trivial) ag4 (h0.sc (i := 4) rfl) rfl) (mtv rfl rfl (mvv (.bool a0.any) rfl) ?_))))
    rcases bif_some h6 with ⟨b10, h6⟩ | ⟨b10, h6⟩
    · refine MT.vv rfl rfl (gy rfl rfl rfl b10) (mvv (.int .i64 a1) rfl) (MT.vv rfl rfl (gy rfl rfl rfl b10) (mvv v0 rfl) (MT.vv rfl rfl (gy rfl rfl rfl b10) (rv_nilcheck rfl h0.ptr) (MT.vv rfl rfl (gy rfl rfl rfl b10) (rv_fieldAddr (b := pb v0) (o := 0) st67 rfl h0.ptr) (MT.r rfl rfl (gy rfl rfl rfl b10) ⟨m9, trivial⟩ (fun w' hq => rw_ofieldU (i := 3) (c := .int .i64 a0.last) h0 (hq.1.mono fun _ _ => trivial) ag3 (h0.sc (i := 3) rfl) rfl) (MT.vv rfl rfl (gy rfl rfl rfl b10) (rv_lss rfl rfl) (mtv rfl rfl (ptk (.bool (decide (a1 < a0.last))) rfl b10 rfl) (mtv rfl rfl (mvv (.bool (decide (a1 < a0.last))) rfl) ?_)))))))
      rcases bif_some h6 with ⟨b11, h6⟩ | ⟨b11, h6⟩
      · refine MT.vv rfl rfl (gy rfl rfl rfl b11) (mvv v0 rfl) (MT.vv rfl rfl (gy rfl rfl rfl b11) (rv_nilcheck rfl h0.ptr) (MT.vv rfl rfl (gy rfl rfl rfl b11) (rv_fieldAddr (b := pb v0) (o := 0) st67 rfl h0.ptr) (MT.r rfl rfl (gy rfl rfl rfl b11) ⟨m9, trivial⟩ (fun w' hq => rw_ofieldU (i := 3) (c := .int .i64 a0.last) h0 (hq.1.mono fun _ _ => trivial) ag3 (h0.sc (i := 3) rfl) rfl) ?_)))
        obtain ⟨y12, h13, h6⟩ := pur_some h6
        refine MT.vv rfl rfl (gy rfl rfl rfl b11) (rv_conv Try.underlying3 Try.underlying77 rfl h13) (MT.vv rfl rfl (gy rfl rfl rfl b11) (mvv (.int .i64 a1) rfl) ?_)
        obtain ⟨y14, h15, h6⟩ := pur_some h6
        refine MT.vv rfl rfl (gy rfl rfl rfl b11) (rv_conv Try.underlying3 Try.underlying77 rfl h15) ?_
        obtain ⟨y16, h17, h6⟩ := pur_some h6
        refine MT.vv rfl rfl (gy rfl rfl rfl b11) (rv_sub rfl rfl h17) (MT.vv rfl rfl (gy rfl rfl rfl b11) (mvv v0 rfl) (MT.vv rfl rfl (gy rfl rfl rfl b11) (rv_nilcheck rfl h0.ptr) (MT.vv rfl rfl (gy rfl rfl rfl b11) (rv_fieldAddr (b := pb v0) (o := 0) st67 rfl h0.ptr) (MT.r rfl rfl (gy rfl rfl rfl b11) ⟨m9, trivial⟩ (fun w' hq => rw_ofieldU (i := 0) (c := .int .i64 a0.window) h0 (hq.1.mono fun _ _ => trivial) ag3 (h0.sc (i := 0) rfl) rfl) ?_))))
        obtain ⟨y18, h19, h6⟩ := pur_some h6
        refine MT.vv rfl rfl (gy rfl rfl rfl b11) (rv_conv Try.underlying3 Try.underlying77 rfl h19) (MT.vv rfl rfl (gy rfl rfl rfl b11) (rv_gtr rfl rfl) (mtv rfl rfl (ptk (.bool (decide (y18 < y16))) rfl b11 rfl) (mtv rfl rfl (asv (.bool (decide (y18 < y16))) rfl) (MT.e ?_))))
        obtain rfl := Option.some.inj h6
        exact ⟨_, C, ⟨rfl, trivial⟩⟩
      · refine MT.n rfl rfl (gn rfl rfl rfl b11) trivial (MT.n rfl rfl (gn rfl rfl rfl b11) trivial (MT.n rfl rfl (gn rfl rfl rfl b11) trivial (MT.n rfl rfl (gn rfl rfl rfl b11) ⟨m9, trivial⟩ (MT.n rfl rfl (gn rfl rfl rfl b11) trivial (MT.n rfl rfl (gn rfl rfl rfl b11) trivial (MT.n rfl rfl (gn rfl rfl rfl b11) trivial (MT.n rfl rfl (gn rfl rfl rfl b11) trivial (MT.n rfl rfl (gn rfl rfl rfl b11) trivial (MT.n rfl rfl (gn rfl rfl rfl b11) trivial (MT.n rfl rfl (gn rfl rfl rfl b11) trivial (MT.n rfl rfl (gn rfl rfl rfl b11) ⟨m9, trivial⟩ ?_)))))))))))
        refine MT.n rfl rfl (gn rfl rfl rfl b11) trivial (MT.n rfl rfl (gn rfl rfl rfl b11) trivial (mtv rfl rfl (pfk (.bool false) rfl b11 rfl) (mtv rfl rfl (asv (.bool false) rfl) (MT.e ?_))))
        obtain rfl := Option.some.inj h6
        exact ⟨_, C, ⟨rfl, trivial⟩⟩
    · refine MT.n rfl rfl (gn rfl rfl rfl b10) trivial (MT.n rfl rfl (gn rfl rfl rfl b10) trivial (MT.n rfl rfl (gn rfl rfl rfl b10) trivial (MT.n rfl rfl (gn rfl rfl rfl b10) trivial (MT.n rfl rfl (gn rfl rfl rfl b10) ⟨m9, trivial⟩ (MT.n rfl rfl (gn rfl rfl rfl b10) trivial (mtv rfl rfl (pfk (.bool false) rfl b10 rfl) (mtv rfl rfl (mvv (.bool false) rfl) (MT.n rfl rfl (gn rfl rfl rfl rfl) trivial (MT.n rfl rfl (gn rfl rfl rfl rfl) trivial (MT.n rfl rfl (gn rfl rfl rfl rfl) trivial (MT.n rfl rfl (gn rfl rfl rfl rfl) ⟨m9, trivial⟩ ?_)))))))))))
      refine MT.n rfl rfl (gn rfl rfl rfl rfl) trivial (MT.n rfl rfl (gn rfl rfl rfl rfl) trivial (MT.n rfl rfl (gn rfl rfl rfl rfl) trivial (MT.n rfl rfl (gn rfl rfl rfl rfl) trivial (MT.n rfl rfl (gn rfl rfl rfl rfl) trivial (MT.n rfl rfl (gn rfl rfl rfl rfl) trivial (MT.n rfl rfl (gn rfl rfl rfl rfl) trivial (MT.n rfl rfl (gn rfl rfl rfl rfl) ⟨m9, trivial⟩ (MT.n rfl rfl (gn rfl rfl rfl rfl) trivial (MT.n rfl rfl (gn rfl rfl rfl rfl) trivial (mtv rfl rfl (pfk (.bool false) rfl rfl rfl) (mtv rfl rfl (asv (.bool false) rfl) ?_)))))))))))
      refine MT.e ?_
      obtain rfl := Option.some.inj h6
      exact ⟨_, C, ⟨rfl, trivial⟩⟩
  · rintro ρ w21 ⟨S20, C, h22⟩
    refine h22.cw fun ρ => ?_
    clear h22
    refine cw_ret ?_
    obtain rfl := Option.some.inj h
    exact ⟨_, rfl, _, rfl, C⟩

noncomputable def cmp_isNaN_int (a0 : Int) : Option Bool :=
  some (a0 != a0)
set_option maxRecDepth 100000 in
set_option maxHeartbeats 4000000 in
theorem cmp_isNaN_int_w {S : Nat → Prop} {w : World} {a0 : Int} {r : Bool} (hS : Sb S w)  (h : cmp_isNaN_int a0 = some r) :
    Calls Try.prog 49 (List.toArray [.int .i64 a0]) w fun e w1 => ∃ S1, e = .returned (.bool r) ∧ Cx No S w S1 w1 := by
  refine enter Try.func49 rfl (by kernel_rfl) rfl ?_
  have C := Cx.refl (F := No) hS
  unfold cmp_isNaN_int at h
  refine cw_seq fun K1 k2 => ?_
  refine cw_region (sv (asv (.bool false) rfl) (W.e (k2 _ _ ?_)))
  refine cw_seq fun K3 k4 => ?_
  refine cw_region (sv (mvv (.int .i64 a0) rfl) (sv (mvv (.int .i64 a0) rfl) (sv (rv_neq rfl rfl) (sv (asv (.bool (a0 != a0)) rfl) (W.e (k4 _ _ (cw_ret ?_)))))))
  obtain rfl := Option.some.inj h
  exact ⟨_, rfl, _, rfl, C⟩

noncomputable def cmp_Compare_int (a0 : Int) (a1 : Int) : Option Int :=
  ((cmp_isNaN_int a0).bind fun y5 => ((cmp_isNaN_int a1).bind fun y12 => (bif y5 then (bif y12 then some (0 : Int) else some (-1 : Int)) else (bif y12 then some (1 : Int) else (bif (decide (a0 < a1)) then some (-1 : Int) else (bif (decide (a1 < a0)) then some (1 : Int) else some (0 : Int)))))))
set_option maxRecDepth 100000 in
set_option maxHeartbeats 4000000 in
theorem cmp_Compare_int_w {S : Nat → Prop} {w : World} {a0 : Int} {a1 : Int} {r : Int} (hS : Sb S w)  (h : cmp_Compare_int a0 a1 = some r) :
    Calls Try.prog 42 (List.toArray [.int .i64 a0, .int .i64 a1]) w fun e w1 => ∃ S1, e = .returned (.int .i64 r) ∧ Cx No S w S1 w1 := by
  refine enter Try.func42 rfl (by kernel_rfl) rfl ?_
  have C := Cx.refl (F := No) hS
  unfold cmp_Compare_int at h
  refine cw_seq fun K1 k2 => ?_
  refine cw_region (sv (asv (.int .i64 0) rfl) (W.e (k2 _ _ ?_)))
  refine cw_seq fun K3 k4 => ?_
  refine cw_region (sv (mvv (.int .i64 a0) rfl) ?_)
  obtain ⟨y5, h6, h⟩ := bnd_some h
  refine sc (dc_call (vs := [.int .i64 a0]) can49 rfl ?_)
  refine (cmp_isNaN_int_w C.sb  h6).mono ?_
  rintro _ w7 ⟨S8, rfl, c9⟩
  refine ⟨_, rfl, ?_⟩
  replace C := C.trans c9
  refine sv (asv (.bool y5) rfl) (W.e (k4 _ _ ?_))
  refine cw_seq fun K10 k11 => ?_
  refine cw_region (sv (mvv (.int .i64 a1) rfl) ?_)
  obtain ⟨y12, h13, h⟩ := bnd_some h
  refine sc (dc_call (vs := [.int .i64 a1]) can49 rfl ?_)
  refine (cmp_isNaN_int_w C.sb  h13).mono ?_
  rintro _ w14 ⟨S15, rfl, c16⟩
  refine ⟨_, rfl, ?_⟩
  replace C := C.trans c16
  refine sv (asv (.bool y12) rfl) (W.e (k11 _ _ ?_))
  refine cw_seq fun K17 k18 => ?_
  refine cw_seq fun K19 k20 => ?_
  refine cw_region (sv (mvv (.bool y5) rfl) (W.e (k20 _ _ ?_)))
  rcases bif_some h with ⟨b21, h⟩ | ⟨b21, h⟩
  · refine cw_t rfl b21 ?_
    refine cw_seq fun K22 k23 => ?_
    refine cw_seq fun K24 k25 => ?_
    refine cw_region (sv (mvv (.bool y12) rfl) (W.e (k25 _ _ ?_)))
    rcases bif_some h with ⟨b26, h⟩ | ⟨b26, h⟩
    · refine cw_t rfl b26 ?_
      refine cw_seq fun K27 k28 => ?_
      refine cw_region (sv (asv (.int .i64 0) rfl) (W.e (k28 _ _ (cw_ret ?_))))
      obtain rfl := Option.some.inj h
      exact ⟨_, rfl, _, rfl, C⟩
    · refine cw_f rfl b26 (cw_skip (k23 _ _ ?_))
      refine cw_seq fun K29 k30 => ?_
      refine cw_region (sv (asv (.int .i64 (-1)) rfl) (W.e (k30 _ _ (cw_ret ?_))))
      obtain rfl := Option.some.inj h
      exact ⟨_, rfl, _, rfl, C⟩
  · refine cw_f rfl b21 (cw_skip (k18 _ _ ?_))
    refine cw_seq fun K31 k32 => ?_
    refine cw_seq fun K33 k34 => ?_
    refine cw_region (sv (mvv (.bool y12) rfl) (W.e (k34 _ _ ?_)))
    rcases bif_some h with ⟨b35, h⟩ | ⟨b35, h⟩
    · refine cw_t rfl b35 ?_
      refine cw_seq fun K36 k37 => ?_
      refine cw_region (sv (asv (.int .i64 1) rfl) (W.e (k37 _ _ (cw_ret ?_))))
      obtain rfl := Option.some.inj h
      exact ⟨_, rfl, _, rfl, C⟩
    · refine cw_f rfl b35 (cw_skip (k32 _ _ ?_))
      refine cw_seq fun K38 k39 => ?_
      refine cw_seq fun K40 k41 => ?_
      refine cw_region (sv (mvv (.int .i64 a0) rfl) (sv (mvv (.int .i64 a1) rfl) (sv (rv_lss rfl rfl) (W.e (k41 _ _ ?_)))))
      rcases bif_some h with ⟨b42, h⟩ | ⟨b42, h⟩
      · refine cw_t rfl b42 ?_
        refine cw_seq fun K43 k44 => ?_
        refine cw_region (sv (asv (.int .i64 (-1)) rfl) (W.e (k44 _ _ (cw_ret ?_))))
        obtain rfl := Option.some.inj h
        exact ⟨_, rfl, _, rfl, C⟩
      · refine cw_f rfl b42 (cw_skip (k39 _ _ ?_))
        refine cw_seq fun K45 k46 => ?_
        refine cw_seq fun K47 k48 => ?_
        refine cw_region (sv (mvv (.int .i64 a0) rfl) (sv (mvv (.int .i64 a1) rfl) (sv (rv_gtr rfl rfl) (W.e (k48 _ _ ?_)))))
        rcases bif_some h with ⟨b49, h⟩ | ⟨b49, h⟩
        · refine cw_t rfl b49 ?_
          refine cw_seq fun K50 k51 => ?_
          refine cw_region (sv (asv (.int .i64 1) rfl) (W.e (k51 _ _ (cw_ret ?_))))
          obtain rfl := Option.some.inj h
          exact ⟨_, rfl, _, rfl, C⟩
        · refine cw_f rfl b49 (cw_skip (k46 _ _ ?_))
          refine cw_seq fun K52 k53 => ?_
          refine cw_region (sv (asv (.int .i64 0) rfl) (W.e (k53 _ _ (cw_ret ?_))))
          obtain rfl := Option.some.inj h
          exact ⟨_, rfl, _, rfl, C⟩

noncomputable def head_byTime (a0 : api_Point) (a1 : Int) : Option Int :=
  ((cmp_Compare_int a0.T a1).bind fun y11 => some y11)
set_option maxRecDepth 100000 in
set_option maxHeartbeats 4000000 in
theorem head_byTime_w {S : Nat → Prop} {w : World} {a0 : api_Point} {a1 : Int} {v0 : Value} {r : Int} (hS : Sb S w) (h0 : Sl api_Point.k S w v0 a0) (h : head_byTime a0 a1 = some r) :
    Calls Try.prog 32 (List.toArray [v0, .int .i64 a1]) w fun e w1 => ∃ S1, e = .returned (.int .i64 r) ∧ Cx No S w S1 w1 := by
  refine enter Try.func32 rfl (by kernel_rfl) rfl ?_
  have C := Cx.refl (F := No) hS
  unfold head_byTime at h
  obtain rfl := api_Point.o.1 h0
  refine cw_seq fun K1 k2 => ?_
  refine cw_region ?_
  refine sc (dc_boxS C.sb rfl fun b3 S4 w5 c6 h7 => ?_)
  replace C := C.trans c6
  refine sv (asv (.int .i64 0) rfl) (W.e (k2 _ _ ?_))
  refine cw_seq fun K9 k10 => ?_
  refine cw_region (sv (rv_fieldAddr st29 rfl rfl) (sr (rw_bk ag3 h7.2 rfl rfl) (sv (mvv (.int .i64 a1) rfl) ?_)))
  obtain ⟨y11, h12, h⟩ := bnd_some h
  refine sc (dc_call (vs := [.int .i64 a0.T, .int .i64 a1]) can42 rfl ?_)
  refine (cmp_Compare_int_w C.sb  h12).mono ?_
  rintro _ w13 ⟨S14, rfl, c15⟩
  refine ⟨_, rfl, ?_⟩
  replace C := C.trans c15
  refine sv (asv (.int .i64 y11) rfl) (W.e (k10 _ _ (cw_ret ?_)))
  obtain rfl := Option.some.inj h
  exact ⟨_, rfl, _, rfl, C⟩

noncomputable def slices_BinarySearchFunc_api_Point_api_Point_int__head_byTime.b2 (a0 : List api_Point) (a1 : Int) (x15 : Int) (x16 : Int) : Option ((Int × Int) ⊕ (Int)) :=
  (bif (decide (x15 < x16)) then (pur (IntKind.i64.wrap (x15 + x16)) fun y26 => (pur (IntKind.u64.wrap y26) fun y28 => (pur (ishr .u64 y28 (1 : Int)) fun y30 => (pur (IntKind.i64.wrap y30) fun y32 => ((at_ a0 y32).bind fun y36 => ((head_byTime y36 a1).bind fun y41 => (bif (decide (y41 < (0 : Int))) then (pur (IntKind.i64.wrap (y32 + (1 : Int))) fun y47 => some (.inl (y47, x16))) else some (.inl (x15, y32))))))))) else some (.inr x15))
noncomputable def slices_BinarySearchFunc_api_Point_api_Point_int__head_byTime (a0 : List api_Point) (a1 : Int) : Option (Int × Bool) :=
  ((iter (fun s : Int × Int => slices_BinarySearchFunc_api_Point_api_Point_int__head_byTime.b2 a0 a1 s.1 s.2) ((0 : Int), (a0.length : Int))).bind fun o7 => ((bif (decide (o7 < (a0.length : Int))) then ((at_ a0 o7).bind fun y58 => ((head_byTime y58 a1).bind fun y63 => some (o7, (y63 == (0 : Int))))) else some (o7, false)).bind fun o53 => some (o53.1, o53.2)))
set_option maxRecDepth 100000 in
set_option maxHeartbeats 4000000 in
theorem slices_BinarySearchFunc_api_Point_api_Point_int__head_byTime_w {S : Nat → Prop} {w : World} {a0 : List api_Point} {a1 : Int} {v0 : Value} {r : Int × Bool} (hS : Sb S w) (h0 : Sl (kSl api_Point.k) S w v0 a0) (h : slices_BinarySearchFunc_api_Point_api_Point_int__head_byTime a0 a1 = some r) :
    Calls Try.prog 31 (List.toArray [v0, .int .i64 a1, .func (.func 32) #[] #[]]) w fun e w1 => ∃ S1, e = .returned (.tuple (List.toArray [.int .i64 r.1, .bool r.2])) ∧ Cx No S w S1 w1 := by
  refine enter Try.func31 rfl (by kernel_rfl) rfl ?_
  have C := Cx.refl (F := No) hS
  unfold slices_BinarySearchFunc_api_Point_api_Point_int__head_byTime at h
  refine cw_seq fun K1 k2 => ?_
  refine cw_region (sv (asv (.int .i64 0) rfl) (sv (asv (.bool false) rfl) (W.e (k2 _ _ ?_))))
  refine cw_seq fun K3 k4 => ?_
  refine cw_region (sv (mvv v0 rfl) (sv (rv_lenS el33 h0 rfl) (sv (asv (.int .i64 (a0.length : Int)) rfl) (W.e (k4 _ _ ?_)))))
  refine cw_seq fun K5 k6 => ?_
  refine cw_region (sv (mvv (.int .i64 (a0.length : Int)) rfl) (sv (asv (.int .i64 0) rfl) (sv (asv (.int .i64 (a0.length : Int)) rfl) (W.e (k6 _ _ ?_)))))
  obtain ⟨o7, h10, h⟩ := bnd_some h
  refine cw_seq' (fun ρ w1 => ∃ S1, Cx No S w S1 w1 ∧ Has ρ [(0, v0), (1, .int .i64 a1), (2, .func (.func 32) #[] #[]), (8, .int .i64 (a0.length : Int)), (9, .int .i64 o7)] ∧ Sl (kSl api_Point.k) S1 w1 v0 a0) ?_ ?_
  · refine cw_block ?_
    refine cw_iter h10 (fun s ρ w1 => ∃ S1, Cx No S w S1 w1 ∧ Has ρ [(0, v0), (1, .int .i64 a1), (2, .func (.func 32) #[] #[]), (8, .int .i64 (a0.length : Int)), (9, .int .i64 s.1), (10, .int .i64 s.2)] ∧ Sl (kSl api_Point.k) S1 w1 v0 a0) ⟨_, C, ⟨rfl, rfl, rfl, rfl, rfl, rfl, trivial⟩, h0⟩ ?_
    rintro ⟨x15, x16⟩ q11 ρ w13 ⟨S12, C, h14, h0⟩ h18 h17
    refine h14.cw fun ρ => ?_
    clear h14
    replace h18 : slices_BinarySearchFunc_api_Point_api_Point_int__head_byTime.b2 a0 a1 x15 x16 = some q11 := h18
    unfold slices_BinarySearchFunc_api_Point_api_Point_int__head_byTime.b2 at h18
    refine cw_seq fun K19 k20 => ?_
    refine cw_seq fun K21 k22 => ?_
    refine cw_region (sv (mvv (.int .i64 x15) rfl) (sv (mvv (.int .i64 x16) rfl) (sv (rv_lss rfl rfl) (W.e (k22 _ _ ?_)))))
    rcases bif_some h18 with ⟨b23, h18⟩ | ⟨b23, h18⟩
    · refine cw_t rfl b23 (cw_skip (k20 _ _ (cw_block ?_)))
      refine cw_seq fun K24 k25 => ?_
      refine cw_region (sv (mvv (.int .i64 x15) rfl) (sv (mvv (.int .i64 x16) rfl) ?_))
      obtain ⟨y26, h27, h18⟩ := pur_some h18
      refine sv (rv_add rfl rfl h27) ?_
      obtain ⟨y28, h29, h18⟩ := pur_some h18
      refine sv (rv_conv Try.underlying3 Try.underlying78 rfl h29) ?_
      obtain ⟨y30, h31, h18⟩ := pur_some h18
      refine sv (rv_shr rfl rfl (by decide) h31) ?_
      obtain ⟨y32, h33, h18⟩ := pur_some h18
      refine sv (rv_conv Try.underlying78 Try.underlying3 rfl h33) (sv (asv (.int .i64 y32) rfl) (W.e (k25 _ _ ?_)))
      refine cw_seq fun K34 k35 => ?_
      refine cw_region (sv (mvv (.func (.func 32) #[] #[]) rfl) (sv (mvv v0 rfl) (sv (mvv (.int .i64 y32) rfl) ?_)))
      obtain ⟨y36, h37, h18⟩ := bnd_some h18
      refine sv (rv_index el33 h0 rfl rfl h37) ?_
      obtain ⟨v38, h39, h40⟩ := rw_loadA (P := Try.prog) el33 h0 h37
      obtain rfl := api_Point.o.1 h39
      refine sr (h40 _ (Sm.refl _ _) rfl) (sv (mvv (.int .i64 a1) rfl) ?_)
      obtain ⟨y41, h42, h18⟩ := bnd_some h18
      refine sc (dc_callV rfl (vs := [.agg (List.toArray [.int .i64 y36.T, .int .i64 y36.V]), .int .i64 a1]) can32 rfl ?_)
      refine (head_byTime_w C.sb ((api_Point.o (x := y36)).2 rfl) h42).mono ?_
      rintro _ w43 ⟨S44, rfl, c45⟩
      refine ⟨_, rfl, ?_⟩
      replace h0 := h0.cx c45
      replace C := C.trans c45
      refine sv (rv_lss rfl rfl) (W.e (k35 _ _ ?_))
      rcases bif_some h18 with ⟨b46, h18⟩ | ⟨b46, h18⟩
      · refine cw_t rfl b46 (cw_region (sv (mvv (.int .i64 y32) rfl) ?_))
        obtain ⟨y47, h48, h18⟩ := pur_some h18
        refine sv (rv_add rfl rfl h48) (sv (asv (.int .i64 y47) rfl) (W.e ?_))
        obtain rfl := Option.some.inj h18
        exact ⟨_, rfl, ⟨_, C, ⟨rfl, rfl, rfl, rfl, rfl, rfl, trivial⟩, h0⟩⟩
      · refine cw_f rfl b46 (cw_region (sv (mvv (.int .i64 y32) rfl) (sv (asv (.int .i64 y32) rfl) (W.e ?_))))
        obtain rfl := Option.some.inj h18
        exact ⟨_, rfl, ⟨_, C, ⟨rfl, rfl, rfl, rfl, rfl, rfl, trivial⟩, h0⟩⟩
    · refine cw_f rfl b23 (cw_exit ?_)
      obtain rfl := Option.some.inj h18
      have h49 := congrArg some h17
      obtain rfl := Option.some.inj h49
      exact ⟨_, C, ⟨rfl, rfl, rfl, rfl, rfl, trivial⟩, h0⟩
  · rintro ρ w51 ⟨S50, C, h52, h0⟩
    refine h52.cw fun ρ => ?_
    clear h52
    obtain ⟨o53, h56, h⟩ := bnd_some h
    refine cw_seq' (fun ρ w1 => ∃ S1, Cx No S w S1 w1 ∧ Has ρ [(6, .int .i64 o53.1), (7, .bool o53.2)]) ?_ ?_
    · refine cw_region (sv (mvv (.int .i64 o7) rfl) (sv (mvv (.int .i64 o7) rfl) (sv (mvv (.int .i64 (a0.length : Int)) rfl) (sv (rv_lss rfl rfl) (sv (mvv (.bool (decide (o7 < (a0.length : Int)))) rfl) ?_)))))
      rcases bif_some h56 with ⟨b57, h56⟩ | ⟨b57, h56⟩
      · refine W.v (gy rfl rfl rfl b57) (mvv (.func (.func 32) #[] #[]) rfl) (W.v (gy rfl rfl rfl b57) (mvv v0 rfl) (W.v (gy rfl rfl rfl b57) (mvv (.int .i64 o7) rfl) ?_))
        obtain ⟨y58, h59, h56⟩ := bnd_some h56
        refine W.v (gy rfl rfl rfl b57) (rv_index el33 h0 rfl rfl h59) ?_
        obtain ⟨v60, h61, h62⟩ := rw_loadA (P := Try.prog) el33 h0 h59
        obtain rfl := api_Point.o.1 h61
        refine W.r (gy rfl rfl rfl b57) (h62 _ (Sm.refl _ _) rfl) (W.v (gy rfl rfl rfl b57) (mvv (.int .i64 a1) rfl) ?_)
        obtain ⟨y63, h64, h56⟩ := bnd_some h56
        refine W.c (gy rfl rfl rfl b57) (dc_callV rfl (vs := [.agg (List.toArray [.int .i64 y58.T, .int .i64 y58.V]), .int .i64 a1]) can32 rfl ?_)
        refine (head_byTime_w C.sb ((api_Point.o (x := y58)).2 rfl) h64).mono ?_
        rintro _ w65 ⟨S66, rfl, c67⟩
        refine ⟨_, rfl, ?_⟩
        replace C := C.trans c67
        refine W.v (gy rfl rfl rfl b57) (rv_eql rfl rfl) (sv (ptk (.bool (y63 == (0 : Int))) rfl b57 rfl) (sv (asv (.int .i64 o7) rfl) (sv (asv (.bool (y63 == (0 : Int))) rfl) (W.e ?_))))
        obtain rfl := Option.some.inj h56
        exact ⟨_, C, ⟨rfl, rfl, trivial⟩⟩
      · refine W.n (gn rfl rfl rfl b57) (W.n (gn rfl rfl rfl b57) (W.n (gn rfl rfl rfl b57) (W.n (gn rfl rfl rfl b57) (W.n (gn rfl rfl rfl b57) (W.n (gn rfl rfl rfl b57) (W.n (gn rfl rfl rfl b57) (W.n (gn rfl rfl rfl b57) (sv (pfk (.bool false) rfl b57 rfl) (sv (asv (.int .i64 o7) rfl) (sv (asv (.bool false) rfl) (W.e ?_)))))))))))
        obtain rfl := Option.some.inj h56
        exact ⟨_, C, ⟨rfl, rfl, trivial⟩⟩
    · rintro ρ w69 ⟨S68, C, h70⟩
      refine h70.cw fun ρ => ?_
      clear h70
      refine cw_ret ?_
      obtain rfl := Option.some.inj h
      exact ⟨_, rfl, _, rfl, C⟩

def slices_Insert_api_Point_api_Point (a0 : List api_Point) (a1 : Int) (a2 : List api_Point) : Option (List api_Point) := insert_ 16 a0 a1 a2
set_option maxRecDepth 100000 in
set_option maxHeartbeats 4000000 in
theorem slices_Insert_api_Point_api_Point_w {S : Nat → Prop} {w : World} {a0 a2 : List api_Point} {a1 : Int} {v0 v2 : Value} {base2 : Nat} {r : List api_Point} (hS : Sb S w) (h0 : Ow api_Point.k 29 S 0 w v0 a0) (h2 : Ow api_Point.k 29 S base2 w v2 a2) (hap : ∀ b, Blk v2 b → ¬ Blk v0 b) (h : slices_Insert_api_Point_api_Point a0 a1 a2 = some r) :
    Calls Try.prog 33 (List.toArray [v0, .int .i64 a1, v2]) w fun e w1 => ∃ u0, e = .returned u0 ∧ Up (Blk v0) w w1 ∧ Ow api_Point.k 29 S 0 w1 u0 r ∧ ∀ b, Blk u0 b → Blk v0 b ∨ w.heap.size ≤ b := by
  refine enter Try.func33 rfl (by kernel_rfl) rfl ?_
  unfold slices_Insert_api_Point_api_Point at h
  obtain ⟨p, rfl, hi0, hi1, hby, rfl⟩ := insert_some h
  obtain ⟨i, rfl⟩ := Int.eq_ofNat_of_zero_le hi0
  simp only [Int.toNat_natCast]
  have hin : i ≤ a0.length := by omega
  have hpos : 0 < (api_Point.k).sz := (el33).hs
  obtain ⟨inf, zv, hinf, hz, hsz, hbyt, hzs⟩ := (el33).hi
  have hlim : a0.length + 1 ≤ lim := Nat.le_trans (Nat.le_mul_of_pos_right _ (by decide)) hby
  unfold lim at hlim hby
  obtain ⟨gv, cv, pc, curv, rfl, hgv, hcv0, hpr, hpc⟩ := Ow.single hpos h2
  have hpl := (api_Point.k).len hpr
  have hp1 := (api_Point.k).one hpr
  obtain ⟨A, c, rfl, hnc, _, _⟩ := sl_slice.1 h0.sealed
  refine cw_seq fun K0 k0 => ?_
  refine cw_region (sv (asv (.slice none 0 0) rfl) (W.e (k0 _ _ ?_)))
  refine cw_seq fun K1 k1 => ?_
  refine cw_region (sv (mvv (.slice A a0.length c) rfl) (sv (mvv (.int .i64 (i : Int)) rfl) ?_))
  refine sv (rv_suf el33 (by omega) (by omega) hnc rfl rfl) (W.e (k1 _ _ ?_))
  refine cw_seq fun K2 k2 => ?_
  refine cw_region (sv (mvv (.slice (some ⟨gv, 0, none⟩) 1 cv) rfl) ?_)
  refine sv (rv_lenS el33 h2.sealed rfl) (sv (asv (.int .i64 1) rfl) (W.e (k2 _ _ ?_)))
  refine cw_seq fun K3 k3 => ?_
  refine cw_seq fun K4 k4 => ?_
  refine cw_region (sv (mvv (.int .i64 1) rfl) (sv (rv_eql rfl rfl) (W.e (k4 _ _ ?_))))
  refine cw_f rfl rfl (cw_skip (k3 _ _ ?_))
  refine cw_seq fun K5 k5 => ?_
  refine cw_region (sv (mvv (.slice A a0.length c) rfl) ?_)
  refine sv (rv_lenS el33 h0.sealed rfl) (sv (asv (.int .i64 (a0.length : Int)) rfl) (W.e (k5 _ _ ?_)))
  refine cw_seq fun K6 k6 => ?_
  refine cw_seq fun K7 k7 => ?_
  refine cw_region (sv (mvv (.int .i64 (i : Int)) rfl) (sv (mvv (.int .i64 (a0.length : Int)) rfl) (sv (rv_eql rfl rfl) (W.e (k7 _ _ ?_)))))
  by_cases he : i = a0.length
  · refine cw_t rfl (by simp [he]) ?_
    refine cw_seq fun K8 k8 => ?_
    refine cw_region (sv (mvv (.slice A a0.length c) rfl) (sv (mvv (.slice (some ⟨gv, 0, none⟩) 1 cv) rfl) ?_))
    have happ : app_ 16 a0 [p] = some (a0 ++ [p]) := by unfold app_ lim; rw [if_pos (by simp only [List.length_cons, List.length_nil]; omega)]
    refine sc (dc_append el33 (by decide) h0 h2.src rfl rfl happ (Nat.zero_le _) hS fun u w1 ho up hb => ?_)
    refine sv (asv u rfl) (W.e (k8 _ _ (cw_ret ?_)))
    have : a0.take i ++ [p] ++ a0.drop i = a0 ++ [p] := by rw [he]; simp
    rw [this]
    exact ⟨_, rfl, u, rfl, up, ho, hb⟩
  · refine cw_f rfl (by simp; omega) (cw_skip (k6 _ _ ?_))
    have hlt : i < a0.length := by omega
    have hA : ∃ g, A = some ⟨g, 0, none⟩ := by
      obtain ⟨cs, ⟨_, h1'⟩, _⟩ := h0
      rcases h1' with ⟨hv, hn⟩ | ⟨g, cap, cur, hv, _⟩
      · omega
      · cases hv; exact ⟨g, rfl⟩
    obtain ⟨g, rfl⟩ := hA
    obtain ⟨cs, cur, _, hg, _, hcm, hcur, htk, hchk, _, hSg, hgl⟩ := h0.row
    have hgne : gv ≠ g := fun e => hap gv rfl (by rw [e]; rfl)
    have hcl : cs.length = a0.length * (api_Point.k).sz := hchk.len
    have hc1 := hchk.one
    have hisz : i * (api_Point.k).sz ≤ a0.length * (api_Point.k).sz := Nat.mul_le_mul_right _ hin
    have hmul : (i + 1) * (api_Point.k).sz = i * (api_Point.k).sz + (api_Point.k).sz := by rw [Nat.add_mul]; omega
    have hmul2 : (a0.length + 1) * (api_Point.k).sz = a0.length * (api_Point.k).sz + (api_Point.k).sz := by rw [Nat.add_mul]; omega
    have hdl : (cs.drop (i * (api_Point.k).sz)).length = a0.length * (api_Point.k).sz - i * (api_Point.k).sz := by rw [List.length_drop, hcl]
    have hsub : (a0.length - i) * (api_Point.k).sz = a0.length * (api_Point.k).sz - i * (api_Point.k).sz := Nat.sub_mul ..
    have hcell : ∀ j u, cs[j]? = some u → w.cell? ⟨g, j, none⟩ = some u := fun j u hj => ownsRow_cell (by obtain ⟨cs', h1, h2', _⟩ := h0; have := h1.cells (g := g) rfl; exact (show w.ownsRow 0 29 (api_Point.k).sz _ _ cs from by
      refine ⟨by rw [hcl], .inr ⟨g, c, cur, rfl, Nat.zero_le _, hg, hnc, hcm, hcur, htk⟩⟩)) j u hj
    have hszI : (Try.prog.info? 29).map (·.size) = some (api_Point.k).sz := by rw [hinf]; simp [hsz]
    have hchkN : Chk (api_Point.k) S w (cs.take (i * (api_Point.k).sz) ++ pc ++ cs.drop (i * (api_Point.k).sz)) (a0.take i ++ [p] ++ a0.drop i) := by
      have h1 := hchk.take i
      have h2 := hchk.drop i
      have h3 : Chk (api_Point.k) S w pc [p] := by have := Chk.cons hpr (Chk.nil (k := api_Point.k) (S := S) (w := w)); simpa using this
      exact (h1.append h3).append h2
    have hlenN : (a0.take i ++ [p] ++ a0.drop i).length = a0.length + 1 := by simp only [List.length_append, List.length_take, List.length_drop, List.length_cons, List.length_nil]; omega
    refine cw_seq fun K8 k8 => ?_
    refine cw_seq fun K9 k9 => ?_
    refine cw_region (sv (mvv (.int .i64 (a0.length : Int)) rfl) (sv (mvv (.int .i64 1) rfl) ?_))
    refine sv (rv_add (r := ((a0.length + 1 : Nat) : Int)) rfl rfl (by rw [IntKind.wrap_i64]; simp; omega)) (sv (mvv (.slice (some ⟨g, 0, none⟩) a0.length c) rfl) ?_)
    refine sv (rv_cap Try.underlying33 rfl) (sv (rv_gtr rfl rfl) (W.e (k9 _ _ ?_)))
    by_cases hroom : c < a0.length + 1
    · -- no room
      refine cw_t rfl (by simp; omega) ?_
      refine cw_seq fun K10 k10 => ?_
      refine cw_region (sv (mvv (.slice (some ⟨g, 0, none⟩) a0.length c) rfl) (sv (mvv (.int .i64 (i : Int)) rfl) ?_))
      refine sv (rv_preG el33 (by omega : i ≤ c) rfl rfl) ?_
      refine sv (mvv (.int .i64 (a0.length : Int)) rfl) (sv (mvv (.int .i64 1) rfl) ?_)
      refine sv (rv_add (r := ((a0.length + 1 : Nat) : Int)) rfl rfl (by rw [IntKind.wrap_i64]; simp; omega)) (sv (mvv (.int .i64 (i : Int)) rfl) ?_)
      refine sv (rv_sub (r := ((a0.length + 1 - i : Nat) : Int)) rfl rfl (by rw [IntKind.wrap_i64]; omega)) ?_
      have hold : (Builtin.firstCells inf.size i (.slice (some ⟨g, 0, none⟩) i c)).run Try.prog w.drew = .ok (cs.take (i * (api_Point.k).sz)).toArray w.drew := by
        rw [hsz]
        refine run_firstCells_some w.drew (api_Point.k).sz i ⟨g, 0, none⟩ i c _ (by rw [List.length_take, hcl]; omega) fun j v hj => ?_
        rw [addr_add, Nat.zero_add]
        rw [List.getElem?_take] at hj
        split at hj
        · exact hcell j v hj
        · cases hj
      have hik : i + (a0.length + 1 - i) = a0.length + 1 := by omega
      refine sc (dc_append_zeros (m := a0.length + 1 - i) Try.underlying33 Try.underlying3 hinf hz hold (by omega) (by rw [hsz]; exact hpos) (by omega) (by omega) (by rw [hbyt]; omega) (by rw [hik, hbyt]; exact growslice_fits hroom (by omega)) rfl rfl ?_)
      rw [hik]
      have hG1 := grownCap_ge w (a0.length + 1) c 29
      have hG2 := grownCap_le_maxLen w (a0.length + 1) c 29 (by unfold maxLen; omega)
      generalize grownCap w (a0.length + 1) c 29 = G at hG1 hG2 ⊢
      obtain ⟨ROW, hROW⟩ : ∃ ROW : Array Value, ROW = (cs.take (i * (api_Point.k).sz)).toArray ++ Builtin.zeroCells zv.cells (a0.length + 1 - i) ++ Builtin.zeroCells zv.cells (G - (a0.length + 1)) := ⟨_, rfl⟩
      rw [← hROW]
      obtain ⟨Z, hZ⟩ : ∃ Z : List Value, Z = (Builtin.zeroCells zv.cells (a0.length + 1 - i)).toList ++ (Builtin.zeroCells zv.cells (G - (a0.length + 1))).toList := ⟨_, rfl⟩
      have hRl : ROW.toList = cs.take (i * (api_Point.k).sz) ++ Z := by rw [hROW, hZ]; simp
      have hZl : Z.length = (G - i) * (api_Point.k).sz := by
        rw [hZ, List.length_append, zeroCells_len, zeroCells_len, hzs, ← Nat.add_mul]
        congr 1
        omega
      have hol : (cs.take (i * (api_Point.k).sz)).length = i * (api_Point.k).sz := by rw [List.length_take, hcl]; omega
      have hGm : G * (api_Point.k).sz = i * (api_Point.k).sz + (G - i) * (api_Point.k).sz := by rw [← Nat.add_mul]; congr 1; omega
      have hGm2 : (a0.length + 1 - i) * (api_Point.k).sz ≤ (G - i) * (api_Point.k).sz := Nat.mul_le_mul_right _ (by omega)
      have hGm3 : (a0.length + 1 - i) * (api_Point.k).sz = (api_Point.k).sz + (a0.length * (api_Point.k).sz - i * (api_Point.k).sz) := by rw [Nat.sub_mul, hmul2]; omega
      have hRs : ROW.size = G * (api_Point.k).sz := by rw [← Array.length_toList, hRl, List.length_append, hol, hZl, hGm]
      have up1 : Up No w (w.drew.alloc (.cells ROW 29)) := (Up.drew _ _).trans (Up.alloc _ _ _)
      have hgN : (w.drew.alloc (.cells ROW 29)).heap[w.heap.size]? = some (.cells ROW 29 (0, 0)) := heap_alloc_new w.drew _
      have hvN : (w.drew.alloc (.cells ROW 29)).heap[gv]? = some (.cells curv 29 (0, 0)) := by rw [up1.block gv (h2.lt gv rfl).2 (fun h => h)]; exact hgv
      have hgO : (w.drew.alloc (.cells ROW 29)).heap[g]? = some (.cells cur 29 (0, 0)) := by rw [up1.block g hgl (fun h => h)]; exact hg
      generalize w.drew.alloc (.cells ROW 29) = w1 at up1 hgN hvN hgO ⊢
      have hgvl := (h2.lt gv rfl).2
      refine sv (asv (.slice (some ⟨w.heap.size, 0, none⟩) (a0.length + 1) G) rfl) (W.e (k10 _ _ ?_))
      -- the element
      refine cw_seq fun K11 k11 => ?_
      refine cw_region (sv (mvv (.slice (some ⟨w.heap.size, 0, none⟩) (a0.length + 1) G) rfl) (sv (mvv (.int .i64 (i : Int)) rfl) ?_))
      refine sv (rv_sufG el33 (by omega : i ≤ a0.length + 1) hG1 (by omega) rfl rfl) (sv (mvv (.slice (some ⟨gv, 0, none⟩) 1 cv) rfl) ?_)
      have hmin1 : Nat.min 1 (a0.length + 1 - i) = 1 := Nat.min_eq_left (by omega)
      refine sc (dc_copyR (cs := pc) Try.underlying33 hszI hgN rfl rfl (by rw [hmin1, hpl]; omega) (fun j u hj => by rw [addr_add, Nat.zero_add]; exact cell_same (hpc j u hj) fun _ => by rw [hvN, hgv]) (by rw [hRs, hpl, hGm]; omega) hp1 ?_)
      rw [hmin1]
      refine W.e (k11 _ _ ?_)
      obtain ⟨cur1, hcur1⟩ : ∃ cur1 : List Value, cur1 = ROW.toList.take (i * (api_Point.k).sz) ++ pc ++ ROW.toList.drop (i * (api_Point.k).sz + pc.length) := ⟨_, rfl⟩
      rw [← hcur1]
      have hsp := splice_lists2 (cs.take (i * (api_Point.k).sz)) pc (cs.drop (i * (api_Point.k).sz)) Z (api_Point.k).sz hpl (by rw [hdl, hZl]; omega)
      rw [hol, ← hRl, ← hcur1] at hsp
      have hc1l : cur1.length = G * (api_Point.k).sz := by
        rw [hcur1, List.length_append, List.length_append, List.length_take, List.length_drop, Array.length_toList, hRs, hpl, hGm]; omega
      -- the rest
      refine cw_seq fun K12 k12 => ?_
      refine cw_drawU (.one 0 true (.one 1 true (.one 2 true (.one 3 true (.one 4 true (.one 5 true (.one 6 true (.one 7 true (.one 8 false .done))))))))) [] [(8, [])] (fun _ => No) fol (by kernel_rfl) fun w2 up2 => ?_
      refine mtv rfl rfl (mvv (.slice (some ⟨w.heap.size, 0, none⟩) (a0.length + 1) G) rfl) (mtv rfl rfl (mvv (.int .i64 (i : Int)) rfl) (mtv rfl rfl (mvv (.int .i64 1) rfl) ?_))
      refine mtv rfl rfl (rv_add (r := ((i + 1 : Nat) : Int)) rfl rfl (by rw [IntKind.wrap_i64]; simp; omega)) ?_
      refine mtv rfl rfl (rv_sufG el33 (by omega : i + 1 ≤ a0.length + 1) hG1 (by omega) rfl rfl) (mtv rfl rfl (mvv (.slice (some ⟨g, 0, none⟩) a0.length c) rfl) (mtv rfl rfl (mvv (.int .i64 (i : Int)) rfl) ?_))
      refine mtv rfl rfl (rv_sufG el33 hin hnc (by omega) rfl rfl) ?_
      have hgN2 : w2.heap[w.heap.size]? = some (.cells cur1.toArray 29 (0, 0)) := by
        rw [up2.block _ (by rw [show (w1.setRow w.heap.size cur1.toArray).heap.size = w1.heap.size from by simp [World.setRow]]; exact (Array.getElem?_eq_some_iff.1 hgN).1) (fun h => h)]
        exact setRow_heap w1 _ ROW cur1.toArray 29 _ hgN
      have up12 : Up No w w2 := by
        refine (up1.then (F := No) (up_setRow (g := w.heap.size) (cs := cur1.toArray)) fun x hx h => ?_).trans up2
        have h : x = w.heap.size := h
        omega
      have hmin2 : Nat.min (a0.length - i) (a0.length + 1 - (i + 1)) = a0.length - i := Nat.min_eq_left (by omega)
      refine mtc rfl rfl (dc_copyR (cs := cs.drop (i * (api_Point.k).sz)) Try.underlying33 hszI hgN2 rfl rfl (by rw [hmin2, hdl, hsub]) (fun j u hj => by
        rw [addr_add]
        rw [List.getElem?_drop] at hj
        exact cell_same (hcell _ u hj) fun hl => up12.block g hl fun h => h) (by rw [hdl, List.size_toArray, hc1l, hmul, hGm]; omega) (fun u hu => hc1 u (List.mem_of_mem_drop hu)) ⟨trivial, ?_⟩)
      refine MT.e (k12 _ _ ?_)
      refine cw_seq fun K13 k13 => ?_
      refine cw_region (sv (mvv (.slice (some ⟨w.heap.size, 0, none⟩) (a0.length + 1) G) rfl) (sv (asv (.slice (some ⟨w.heap.size, 0, none⟩) (a0.length + 1) G) rfl) (W.e (k13 _ _ (cw_ret ?_)))))
      rw [hmul]
      have hupF : Up No w (w2.setRow w.heap.size (cur1.toArray.toList.take (i * (api_Point.k).sz + (api_Point.k).sz) ++ cs.drop (i * (api_Point.k).sz) ++ cur1.toArray.toList.drop (i * (api_Point.k).sz + (api_Point.k).sz + (cs.drop (i * (api_Point.k).sz)).length)).toArray) := up12.then (F := No) up_setRow fun x hx h => by
        have h : x = w.heap.size := h
        omega
      refine ⟨_, rfl, _, rfl, hupF.no, ?_, fun b hb => .inr (Nat.le_of_eq (Option.some.inj hb))⟩
      have := Ow.mkRow (k := api_Point.k) (S := S) (base := 0) (xs := a0.take i ++ [p] ++ a0.drop i) (c := G) (setRow_heap w2 _ _ _ 29 _ hgN2) (by rw [hlenN]; exact hG1) hG2 (by rw [List.size_toArray, List.toList_toArray, hsp.1, Array.length_toList, hRs]) (by
        rw [List.toList_toArray, List.toList_toArray, hlenN, hmul2]
        have h3 := hsp.2
        rw [show a0.length * (api_Point.k).sz + (api_Point.k).sz = i * (api_Point.k).sz + (api_Point.k).sz + (cs.drop (i * (api_Point.k).sz)).length from by rw [hdl]; omega]
        exact h3) (hchkN.to (fun _ h => h) hupF.sm0) (Nat.zero_le _) (fun hs => by have := hS _ hs; omega) (by rw [hlenN]; unfold lim; omega)
      rw [hlenN] at this
      exact this
    · -- room
      refine cw_f rfl (by simp; omega) (cw_skip (k8 _ _ ?_))
      have hcge : a0.length + 1 ≤ c := by omega
      have hcm2 : (a0.length + 1) * (api_Point.k).sz ≤ c * (api_Point.k).sz := Nat.mul_le_mul_right _ hcge
      have hgvl := (h2.lt gv rfl).2
      refine cw_seq fun K10 k10 => ?_
      refine cw_region (sv (mvv (.slice (some ⟨g, 0, none⟩) a0.length c) rfl) (sv (mvv (.int .i64 (a0.length : Int)) rfl) (sv (mvv (.int .i64 1) rfl) ?_)))
      refine sv (rv_add (r := ((a0.length + 1 : Nat) : Int)) rfl rfl (by rw [IntKind.wrap_i64]; simp; omega)) ?_
      refine sv (rv_preG el33 hcge rfl rfl) (sv (asv (.slice (some ⟨g, 0, none⟩) (a0.length + 1) c) rfl) (W.e (k10 _ _ ?_)))
      refine cw_seq fun K11 k11 => ?_
      refine cw_seq fun K12 k12 => ?_
      refine cw_region (sv (mvv (.slice (some ⟨gv, 0, none⟩) 1 cv) rfl) (sv (mvv (.slice (some ⟨g, 0, none⟩) (a0.length + 1) c) rfl) (sv (mvv (.int .i64 (i : Int)) rfl) (sv (mvv (.int .i64 1) rfl) ?_))))
      refine sv (rv_add (r := ((i + 1 : Nat) : Int)) rfl rfl (by rw [IntKind.wrap_i64]; simp; omega)) ?_
      refine sv (rv_sufG el33 (by omega : i + 1 ≤ a0.length + 1) hcge (by omega) rfl rfl) ?_
      have hcpos : cur.size ≠ 0 := by
        rw [hcur]
        exact Nat.ne_of_gt (Nat.mul_pos (by omega) hpos)
      have hov : (callFunc 43 (List.toArray [.slice (some ⟨gv, 0, none⟩) 1 cv, .slice (some ⟨g, (i + 1) * (api_Point.k).sz, none⟩) (a0.length + 1 - (i + 1)) (c - (i + 1))])).run Try.prog w = .ok (.value (.bool false)) w := by
        rw [run_callFunc_extern (P := Try.prog) (f := 43) (fn := Try.f43) Try.func43 (by kernel_rfl) (by kernel_rfl) (by kernel_rfl) (e := Extern.SlicesOverlaps.overlaps #[33, 33] #[4]) (by kernel_rfl),
          Lib.run_overlaps_apart w 33 4 29 Try.underlying33 (api_Point.k).sz (fun w => (el33).toTy.size) ⟨gv, 0, none⟩ ⟨g, (i + 1) * (api_Point.k).sz, none⟩ 1 cv (a0.length + 1 - (i + 1)) (c - (i + 1)) hgne 29 29 curv.size cur.size
            (by simp [World.shape?, hgv]) (by simp [World.shape?, hg]) hcpos (by simp [World.frozen?, hgv]) (by simp [World.frozen?, hgv])]
        rfl
      refine sc (dc_ext rfl hov ?_)
      refine sv (rv_not rfl) (W.e (k12 _ _ ?_))
      refine cw_t rfl rfl ?_
      have hZ : ∃ Z, cur.toList = cs ++ Z := ⟨cur.toList.drop (a0.length * (api_Point.k).sz), by rw [← htk, List.take_append_drop]⟩
      obtain ⟨Z, hZ⟩ := hZ
      have hZl : cur.size = a0.length * (api_Point.k).sz + Z.length := by rw [← Array.length_toList, hZ, List.length_append, hcl]
      have hsp := splice_lists cs pc Z (i * (api_Point.k).sz) (api_Point.k).sz hpl (by rw [hcl]; exact hisz) (by rw [hdl, List.length_append, hcl]; omega)
      rw [← hZ] at hsp
      obtain ⟨cur1, hcur1⟩ : ∃ cur1 : List Value, cur1 = cur.toList.take (i * (api_Point.k).sz + (api_Point.k).sz) ++ cs.drop (i * (api_Point.k).sz) ++ cur.toList.drop (i * (api_Point.k).sz + (api_Point.k).sz + (cs.drop (i * (api_Point.k).sz)).length) := ⟨_, rfl⟩
      rw [← hcur1] at hsp
      have hc1l : cur1.length = cur.size := by
        rw [hcur1]
        simp only [List.length_append, List.length_take, List.length_drop, Array.length_toList, hcl, hZl]
        omega
      -- the rest goes up
      refine cw_seq fun K13 k13 => ?_
      refine cw_drawU (.one 0 true (.one 1 true (.one 2 true (.one 3 true (.one 4 true (.one 5 true (.one 6 true (.one 7 true (.one 8 false .done))))))))) [] [(8, [])] (fun _ => No) fol (by kernel_rfl) fun w1 up1 => ?_
      refine mtv rfl rfl (mvv (.slice (some ⟨g, 0, none⟩) (a0.length + 1) c) rfl) (mtv rfl rfl (mvv (.int .i64 (i : Int)) rfl) (mtv rfl rfl (mvv (.int .i64 1) rfl) ?_))
      refine mtv rfl rfl (rv_add (r := ((i + 1 : Nat) : Int)) rfl rfl (by rw [IntKind.wrap_i64]; simp; omega)) ?_
      refine mtv rfl rfl (rv_sufG el33 (by omega : i + 1 ≤ a0.length + 1) hcge (by omega) rfl rfl) (mtv rfl rfl (mvv (.slice (some ⟨g, 0, none⟩) (a0.length + 1) c) rfl) (mtv rfl rfl (mvv (.int .i64 (i : Int)) rfl) ?_))
      refine mtv rfl rfl (rv_sufG el33 (by omega : i ≤ a0.length + 1) hcge (by omega) rfl rfl) ?_
      have hg1 : w1.heap[g]? = some (.cells cur 29 (0, 0)) := by rw [up1.block g hgl (fun h => h)]; exact hg
      have hmin1 : Nat.min (a0.length + 1 - i) (a0.length + 1 - (i + 1)) = a0.length - i := by rw [show Nat.min (a0.length + 1 - i) (a0.length + 1 - (i + 1)) = a0.length + 1 - (i + 1) from Nat.min_eq_right (by omega)]; omega
      refine mtc rfl rfl (dc_copyR (cs := cs.drop (i * (api_Point.k).sz)) Try.underlying33 hszI hg1 rfl rfl (by rw [hmin1, hdl, hsub]) (fun j u hj => by
        rw [addr_add]
        rw [List.getElem?_drop] at hj
        exact cell_same (hcell _ u hj) fun hl => up1.block g hl fun h => h) (by rw [hdl, hmul, hZl]; omega) (fun u hu => hc1 u (List.mem_of_mem_drop hu)) ⟨trivial, ?_⟩)
      rw [hmul, ← hcur1]
      refine MT.e (k13 _ _ ?_)
      have hg2 := setRow_heap w1 _ cur cur1.toArray 29 _ hg1
      have up2 : Up (One g) w (w1.setRow g cur1.toArray) := (up1.no (F := One g)).trans up_setRow
      generalize w1.setRow g cur1.toArray = w2 at hg2 up2 ⊢
      refine cw_seq fun K14 k14 => ?_
      refine cw_region (sv (mvv (.slice (some ⟨g, 0, none⟩) (a0.length + 1) c) rfl) (sv (mvv (.int .i64 (i : Int)) rfl) ?_))
      refine sv (rv_sufG el33 (by omega : i ≤ a0.length + 1) hcge (by omega) rfl rfl) (sv (mvv (.slice (some ⟨gv, 0, none⟩) 1 cv) rfl) ?_)
      have hmin2 : Nat.min 1 (a0.length + 1 - i) = 1 := Nat.min_eq_left (by omega)
      refine sc (dc_copyR (cs := pc) Try.underlying33 hszI hg2 rfl rfl (by rw [hmin2, hpl]; omega) (fun j u hj => by rw [addr_add, Nat.zero_add]; exact cell_same (hpc j u hj) fun hl => up2.block gv hl fun h => hgne h) (by rw [List.size_toArray, hc1l, hpl, hZl]; omega) hp1 ?_)
      refine W.e (k14 _ _ ?_)
      refine cw_seq fun K15 k15 => ?_
      refine cw_region (sv (mvv (.slice (some ⟨g, 0, none⟩) (a0.length + 1) c) rfl) (sv (asv (.slice (some ⟨g, 0, none⟩) (a0.length + 1) c) rfl) (W.e (k15 _ _ (cw_ret ?_)))))
      have hupF : Up (One g) w (w2.setRow g (cur1.toArray.toList.take (i * (api_Point.k).sz) ++ pc ++ cur1.toArray.toList.drop (i * (api_Point.k).sz + pc.length)).toArray) := up2.trans up_setRow
      have hsm : Sm S w (w2.setRow g (cur1.toArray.toList.take (i * (api_Point.k).sz) ++ pc ++ cur1.toArray.toList.drop (i * (api_Point.k).sz + pc.length)).toArray) := hupF.sm fun b hb _ h => by
        have h : b = g := h
        rw [h] at hb
        exact hSg hb
      refine ⟨_, rfl, _, rfl, hupF.mono (fun b _ h => by have h : b = g := h; rw [h]; rfl), ?_, fun b hb => .inl hb⟩
      have := Ow.mkRow (k := api_Point.k) (S := S) (base := 0) (xs := a0.take i ++ [p] ++ a0.drop i) (c := c) (setRow_heap w2 _ _ _ 29 _ hg2) (by rw [hlenN]; exact hcge) hcm (by rw [List.size_toArray, List.toList_toArray, hsp.1, Array.length_toList, hcur]) (by
        rw [List.toList_toArray, List.toList_toArray, hlenN, hmul2]
        have h3 := hsp.2
        rw [hcl] at h3
        exact h3) (hchkN.to (fun _ h => h) hsm) (Nat.zero_le _) hSg (by rw [hlenN]; unfold lim; omega)
      rw [hlenN] at this
      exact this

noncomputable def head_Head_Add (a0 : Option head_Head) (a1 : Int) (a2 : api_Point) : Option (Int × (Option head_Head)) :=
  ((bif a0.isNone then some (.inr ((2 : Int), a0)) else ((bif (decide (a1 < (0 : Int))) then some true else some (decide ((4096 : Int) ≤ a1))).bind fun o18 => (bif o18 then some (.inr ((1 : Int), a0)) else ((a0).bind fun y31 => ((head_Head_far y31 a2.T).bind fun y34 => (bif y34 then some (.inr ((110 : Int), some y31)) else some (.inl ()))))))).bind (Sum.elim (fun o9n => ((a0).bind fun y50 => ((slices_BinarySearchFunc_api_Point_api_Point_int__head_byTime ((mget a1 y50.series).getD []) a2.T).bind fun y60 => (bif y60.2 then some ((111 : Int), some y50) else (bif (decide ((2048 : Int) ≤ y50.many)) then some ((4 : Int), some y50) else ((slices_Insert_api_Point_api_Point ((mget a1 y50.series).getD []) y60.1 ([a2] : List api_Point)).bind fun y101 => (pur ({ y50 with series := (mput a1 y101 y50.series) } : head_Head) fun y114 => (pur (IntKind.i64.wrap (y114.many + (1 : Int))) fun y128 => (pur ({ y114 with many := y128 } : head_Head) fun y130 => (((bif (!y130.any) then some true else some (decide (y130.last < a2.T))).bind fun o144 => (bif o144 then (pur ({ y130 with last := a2.T } : head_Head) fun y156 => (pur ({ y156 with any := true } : head_Head) fun y166 => some y166)) else some y130)).bind fun o140 => some ((0 : Int), some o140))))))))))) (fun q => some q)))
set_option maxRecDepth 100000 in
set_option maxHeartbeats 4000000 in
theorem head_Head_Add_w {S : Nat → Prop} {w : World} {a0 : Option head_Head} {a1 : Int} {a2 : api_Point} {v0 v2 : Value} {cs0 : List Value} {fp0 : List Nat} {r : Int × (Option head_Head)} (hS : Sb S w) (h0 : Obo 67 head_Head.fs S w v0 a0 cs0 fp0) (h2 : Sl api_Point.k S w v2 a2) (h : head_Head_Add a0 a1 a2 = some r) :
    Calls Try.prog 12 (List.toArray [v0, .int .i64 a1, v2]) w fun e w1 => ∃ S1 us_0 up_0, e = .returned (.int .i64 r.1) ∧ Cx (fun b => b ∈ fp0) S w S1 w1 ∧ Obo 67 head_Head.fs S1 w1 v0 r.2 us_0 up_0 ∧ (∀ b, b ∈ up_0 → b ∈ fp0 ∨ w.heap.size ≤ b) := by
  refine enter Try.func12 rfl (by kernel_rfl) rfl ?_
  have C := Cx.refl (F := (fun b => b ∈ fp0)) hS
  unfold head_Head_Add at h
  have hs0 : ∀ b, b ∈ fp0 → b ∈ fp0 ∨ w.heap.size ≤ b := fun b hb => .inl hb
  have hl0 : ∀ b ∈ fp0, b < w.heap.size := fun b hb => (h0.lt b hb).1
  obtain rfl := api_Point.o.1 h2
  refine cw_seq fun K1 k2 => ?_
  refine cw_region ?_
  refine sc (dc_boxS C.sb rfl fun b3 S4 w5 c6 h7 => ?_)
  replace h0 := h0.cx c6
  replace C := C.trans c6
  refine sv (asv (.int .i64 0) rfl) (W.e (k2 _ _ ?_))
  obtain ⟨o9, h12, h⟩ := bnds_some h
  refine cw_seq' (fun ρ w1 => ∃ o9n, o9 = (.inl o9n) ∧ ∃ S1, Cx (fun b => b ∈ fp0) S w S1 w1 ∧ Has ρ [(0, v0), (1, .int .i64 a1), (5, .pointer (some ⟨b3, 0, none⟩))] ∧ Bs S1 w1 b3 [.int .i64 a2.T, .int .i64 a2.V] 29 ∧ Obo 67 head_Head.fs S1 w1 v0 a0 cs0 fp0) ?_ ?_
  · refine cw_block ?_
    refine cw_seq fun K13 k14 => ?_
    refine cw_region (sv (mvv v0 rfl) (sv (rv_nileq Try.underlying23 rfl rfl h0.ne) (sv (asv (.bool a0.isNone) rfl) (W.e (k14 _ _ ?_)))))
    rcases bif_some h12 with ⟨b15, h12⟩ | ⟨b15, h12⟩
    · refine cw_t rfl b15 ?_
      refine cw_seq fun K16 k17 => ?_
      refine cw_region (sv (asv (.int .i64 2) rfl) (W.e (k17 _ _ (cw_ret ?_))))
      obtain rfl := Option.some.inj h12
      replace h := h.2 _ rfl
      obtain rfl := Option.some.inj h
      exact ⟨_, rfl, _, _, _, rfl, C, h0, hs0⟩
    · refine cw_f rfl b15 ?_
      obtain ⟨o18, h21, h12⟩ := bnd_some h12
      refine cw_seq' (fun ρ w1 => ∃ S1, Cx (fun b => b ∈ fp0) S w S1 w1 ∧ Has ρ [(0, v0), (1, .int .i64 a1), (5, .pointer (some ⟨b3, 0, none⟩)), (12, .bool o18)] ∧ Bs S1 w1 b3 [.int .i64 a2.T, .int .i64 a2.V] 29 ∧ Obo 67 head_Head.fs S1 w1 v0 a0 cs0 fp0) ?_ ?_
      · refine cw_region (sv (mvv (.int .i64 a1) rfl) (sv (rv_lss rfl rfl) (sv (mvv (.bool (decide (a1 < (0 : Int)))) rfl) ?_)))
        rcases bif_some h21 with ⟨b22, h21⟩ | ⟨b22, h21⟩
        · refine W.n (gn rfl rfl rfl b22) (W.n (gn rfl rfl rfl b22) (sv (ptk (.bool true) rfl b22 rfl) (sv (asv (.bool true) rfl) (W.e ?_))))
          obtain rfl := Option.some.inj h21
          exact ⟨_, C, ⟨rfl, rfl, rfl, rfl, trivial⟩, h7, h0⟩
        · refine W.v (gy rfl rfl rfl b22) (mvv (.int .i64 a1) rfl) (W.v (gy rfl rfl rfl b22) (rv_geq rfl rfl) (sv (pfk (.bool (decide ((4096 : Int) ≤ a1))) rfl b22 rfl) (sv (asv (.bool (decide ((4096 : Int) ≤ a1))) rfl) (W.e ?_))))
          obtain rfl := Option.some.inj h21
          exact ⟨_, C, ⟨rfl, rfl, rfl, rfl, trivial⟩, h7, h0⟩
      · rintro ρ w24 ⟨S23, C, h25, h7, h0⟩
        refine h25.cw fun ρ => ?_
        clear h25
        rcases bif_some h12 with ⟨b26, h12⟩ | ⟨b26, h12⟩
        · refine cw_t rfl b26 ?_
          refine cw_seq fun K27 k28 => ?_
          refine cw_region (sv (asv (.int .i64 1) rfl) (W.e (k28 _ _ (cw_ret ?_))))
          obtain rfl := Option.some.inj h12
          replace h := h.2 _ rfl
          obtain rfl := Option.some.inj h
          exact ⟨_, rfl, _, _, _, rfl, C, h0, hs0⟩
        · refine cw_f rfl b26 ?_
          refine cw_seq fun K29 k30 => ?_
          refine cw_region (sv (mvv v0 rfl) (sv (rv_fieldAddr st29 rfl rfl) (sr (rw_bk ag3 h7.2 rfl rfl) ?_)))
          obtain ⟨y31, h32, h12⟩ := bnd_some h12
          have h33 := h0
          rw [h32] at h33
          replace h33 : Ob 67 (head_Head.fs y31) _ _ _ _ _ := h33
          obtain ⟨y34, h35, h12⟩ := bnd_some h12
          refine sc (dc_call (vs := [v0, .int .i64 a2.T]) can30 rfl ?_)
          refine (head_Head_far_w C.sb h33 h35).mono ?_
          rintro _ w36 ⟨S37, rfl, c38⟩
          refine ⟨_, rfl, ?_⟩
          replace h33 := h33.cx c38
          replace h0 := h0.cx c38
          replace h7 := h7.cx c38
          replace C := C.trans c38
          refine sv (asv (.bool y34) rfl) (W.e (k30 _ _ ?_))
          rcases bif_some h12 with ⟨b39, h12⟩ | ⟨b39, h12⟩
          · refine cw_t rfl b39 ?_
            refine cw_seq fun K40 k41 => ?_
            refine cw_region (sv (asv (.int .i64 110) rfl) (W.e (k41 _ _ (cw_ret ?_))))
            obtain rfl := Option.some.inj h12
            replace h := h.2 _ rfl
            obtain rfl := Option.some.inj h
            exact ⟨_, rfl, _, _, _, rfl, C, h33, hs0⟩
          · refine cw_f rfl b39 (cw_skip ?_)
            obtain rfl := Option.some.inj h12
            exact ⟨_, rfl, ⟨_, C, ⟨rfl, rfl, rfl, trivial⟩, h7, h0⟩⟩
  · rintro ρ w43 ⟨o9n, rfl, ⟨S42, C, h44, h7, h0⟩⟩
    replace h := h.1 _ rfl
    refine h44.cw fun ρ => ?_
    clear h44
    refine cw_seq fun K45 k46 => ?_
    refine cw_drawU (.one 0 true (.one 1 true (.one 2 true (.one 3 true (.one 4 true (.one 5 true (.one 6 true (.one 7 true (.one 8 false (.one 9 true (.one 10 true (.one 11 true (.one 12 true (.one 13 true .done)))))))))))))) [(3, [9]), (5, [9]), (7, [9])] [(8, [9])] (fun c => bif Nat.beq c 9 then (fun _ => True) else No) fol (by kernel_rfl) fun w47 u48 => ?_
    replace h0 := h0.nw u48
    replace h7 := h7.nw u48
    replace C := C.new u48
    have h0d := h0
    have h7d := h7
    have m49 := Sm.refl (fun _ => True) w47
    refine mtv rfl rfl (mvv v0 rfl) ?_
    obtain ⟨y50, h51, h⟩ := bnd_some h
    have h52 := h0
    rw [h51] at h52
    replace h52 : Ob 67 (head_Head.fs y50) _ _ _ _ _ := h52
    have h52d := h52
    refine mtv rfl rfl (rv_nilcheck rfl h52.ptr) (mtv rfl rfl (rv_fieldAddr (b := pb v0) (o := 0) st67 rfl h52.ptr) ?_)
    obtain ⟨c53, h54⟩ := h52.at (i := 1) rfl
    refine mtr rfl rfl ⟨m49, trivial⟩ (fun w' hq => rw_ofieldU (i := 1) (c := c53) h52 (hq.1.mono fun _ _ => trivial) ag65 h54 rfl) (mtv rfl rfl (mvv (.int .i64 a1) rfl) ?_)
    obtain ⟨v55, h56, h57, h58, h59⟩ := Ob.lendU (P := Try.prog) (tm := 65) (te := 33) h52 (i := 1) rfl h54 Try.underlying65 zv33 a1
    refine mtr rfl rfl ⟨m49, trivial⟩ (fun w' hq => h58 (hq.1.mono fun _ _ => trivial) rfl rfl) (mtv rfl rfl (rv_fieldAddr st29 rfl rfl) (mtr rfl rfl ⟨m49, trivial⟩ (fun w' hq => rw_bk ag3 (h7.sm (hq.1.mono fun _ _ => trivial)) rfl rfl) ?_))
    obtain ⟨y60, h61, h⟩ := bnd_some h
    refine mtc rfl rfl (dc_call (vs := [v55, .int .i64 a2.T, .func (.func 32) #[] #[]]) can31 rfl ?_)
    refine (slices_BinarySearchFunc_api_Point_api_Point_int__head_byTime_w (h56.sbO C.sb) h56.sealed h61).mono ?_
    rintro _ w62 ⟨S63, rfl, c64⟩
    refine ⟨_, rfl, ?_⟩
    replace h52 := h52.nw c64.up
    replace h0 := h0.nw c64.up
    replace h7 := h7.nw c64.up
    replace C := C.new c64.up
    have z65 := (c64.up).size
    have m66 := m49.nx c64.up (by omega)
    refine ⟨⟨m66, trivial⟩, ?_⟩
    refine mtv rfl rfl (mvv (.tuple (List.toArray [.int .i64 y60.1, .bool y60.2])) rfl) (mtv rfl rfl (rv_extract rfl rfl) (mtv rfl rfl (rv_extract rfl rfl) (mtv rfl rfl (asv (.int .i64 y60.1) rfl) (mtv rfl rfl (asv (.bool y60.2) rfl) (MT.e (k46 _ _ ?_))))))
    refine cw_seq fun K67 k68 => ?_
    refine cw_block ?_
    refine cw_seq fun K69 k70 => ?_
    refine cw_region (sv (mvv (.bool y60.2) rfl) (sv (asv (.bool y60.2) rfl) (W.e (k70 _ _ ?_))))
    rcases bif_some h with ⟨b71, h⟩ | ⟨b71, h⟩
    · refine cw_t rfl b71 ?_
      refine cw_seq fun K72 k73 => ?_
      refine cw_region (sv (asv (.int .i64 111) rfl) (W.e (k73 _ _ (cw_ret ?_))))
      obtain rfl := Option.some.inj h
      exact ⟨_, rfl, _, _, _, rfl, C, h52, hs0⟩
    · refine cw_f rfl b71 ?_
      refine cw_seq fun K74 k75 => ?_
      refine cw_region (sv (mvv v0 rfl) (sv (rv_nilcheck rfl h52.ptr) (sv (rv_fieldAddr (b := pb v0) (o := 0) st67 rfl h52.ptr) (sr (rw_ofield (i := 2) (c := .int .i64 y50.many) h52 ag3 (h52.sc (i := 2) rfl) rfl) (sv (rv_geq rfl rfl) (sv (asv (.bool (decide ((2048 : Int) ≤ y50.many))) rfl) (W.e (k75 _ _ ?_))))))))
      rcases bif_some h with ⟨b76, h⟩ | ⟨b76, h⟩
      · refine cw_t rfl b76 ?_
        refine cw_seq fun K77 k78 => ?_
        refine cw_region (sv (asv (.int .i64 4) rfl) (W.e (k78 _ _ (cw_ret ?_))))
        obtain rfl := Option.some.inj h
        exact ⟨_, rfl, _, _, _, rfl, C, h52, hs0⟩
      · refine cw_f rfl b76 (cw_skip (k68 _ _ ?_))
        refine cw_seq fun K79 k80 => ?_
        refine cw_drawU (.one 0 true (.one 1 true (.one 2 true (.one 3 true (.one 4 true (.one 5 true (.one 6 true (.one 7 true (.one 8 true (.one 9 true (.one 10 true (.one 11 true (.one 12 true (.one 13 false (.one 14 false (.one 15 false .done)))))))))))))))) [(3, [10]), (8, [10]), (10, [101]), (12, [0])] [(13, [10, 101]), (14, [0, 10]), (15, [])] (fun c => bif Nat.beq c 0 then S42 else bif Nat.beq c 10 then (One (pb v0)) else bif Nat.beq c 101 then (One (mb c53)) else No) fol (by kernel_rfl) fun w81 u82 => ?_
        replace h52 := h52.nw u82
        replace h0 := h0.nw u82
        replace h7 := h7.nw u82
        replace C := C.new u82
        have h52d := h52
        have h0d := h0
        have h7d := h7
        have m83 := Sm.refl S42 w81
        have m84 := Sm.refl (One (pb v0)) w81
        have m85 := Sm.refl (One (mb c53)) w81
        refine mtv rfl rfl (mvv v0 rfl) (mtv rfl rfl (rv_nilcheck rfl h52.ptr) (mtv rfl rfl (rv_fieldAddr (b := pb v0) (o := 0) st67 rfl h52.ptr) (mtr rfl rfl ⟨m84, trivial⟩ (fun w' hq => rw_ofieldU (i := 1) (c := c53) h52 hq.1 ag65 h54 rfl) (mtv rfl rfl (mvv (.int .i64 a1) rfl) (mtv rfl rfl (mvv v0 rfl) (mtv rfl rfl (rv_nilcheck rfl h52.ptr) (mtv rfl rfl (rv_fieldAddr (b := pb v0) (o := 0) st67 rfl h52.ptr) (mtr rfl rfl ⟨m84, trivial⟩ (fun w' hq => rw_ofieldU (i := 1) (c := c53) h52 hq.1 ag65 h54 rfl) (mtv rfl rfl (mvv (.int .i64 a1) rfl) ?_)))))))))
        obtain ⟨v86, h87, h88, h89, h90⟩ := Ob.lendU (P := Try.prog) (tm := 65) (te := 33) h52 (i := 1) rfl h54 Try.underlying65 zv33 a1
        refine mtr rfl rfl ⟨m85, trivial⟩ (fun w' hq => h89 hq.1 rfl rfl) (mtv rfl rfl (mvv (.int .i64 y60.1) rfl) (mtr rfl rfl ⟨m83, trivial⟩ (fun w' hq => rw_bkA ag29 (h7.sm hq.1) rfl rfl rfl) ?_))
        refine mtc rfl rfl (dc_lit (vs := [.agg (List.toArray [.int .i64 a2.T, .int .i64 a2.V])]) (xs := ([a2] : List api_Point)) (base := w.heap.size) el33 rfl rfl (.cons ((api_Point.o (x := a2)).2 rfl) (.nil)) (Nat.le_of_ble_eq_true rfl) C.up.size C.sb fun v91 w92 h93 h94 u95 => ?_)
        have p96 := ap_fresh h94 (fun b hb => (h52.lt b hb).1)
        replace h52 := h52.nw u95
        replace h0 := h0.nw u95
        replace h7 := h7.nw u95
        replace h87 := h87.nw u95
        replace C := C.new u95
        have z97 := (u95).size
        have m98 := m83.nx u95 (by omega)
        have m99 := m84.nx u95 (by omega)
        have m100 := m85.nx u95 (by omega)
        refine ⟨⟨m99, m100, trivial⟩, ?_⟩
        obtain ⟨y101, h102, h⟩ := bnd_some h
        refine mtc rfl rfl (dc_call (vs := [v86, .int .i64 y60.1, v91]) can33 rfl ?_)
        refine (slices_Insert_api_Point_api_Point_w C.sb h87 h93 (ap_symm (fun b h1 h2 => (ap_symm p96) b (h88 b h1).1 h2)) h102).mono ?_
        rintro _ w103 ⟨v106, rfl, u104, h105, h107⟩
        refine ⟨_, rfl, ?_⟩
        have h108 : ∀ b, Blk v106 b → w92.heap.size ≤ b ∨ Blk v86 b := fun b hq => (h107 b hq).symm
        have h109 : ∀ b, Blk v106 b → Blk v86 b ∨ b ∉ fp0 := fun b hq => (h107 b hq).imp id fun hl hm => absurd (h52.lt b hm).1 (Nat.not_lt_of_le hl)
        have h110 : ∀ b, Blk v106 b → b ∈ fp0 ∨ w92.heap.size ≤ b := fun b hq => (h107 b hq).imp (fun hl => (h88 b hl).1) id
        have z111 := (u104).size
        have m112 := m98.wrC u104 (by omega) h87.not
        have m113 := m99.wrC u104 (by omega) (fun b h1 h2 => (h88 b h1).2.1 h2)
        refine ⟨⟨m112, m113, trivial⟩, ?_⟩
        obtain ⟨y114, h115, h⟩ := pur_some h
        refine mtc rfl rfl (h90 h52 (m100) u104 h105 h109 rfl rfl rfl fun w116 fp120 h117 h121 u118 => ?_)
        replace h117 : Ob 67 (head_Head.fs ({ y50 with series := (mput a1 y101 y50.series) } : head_Head)) S42 w116 v0 cs0 fp120 := h117
        rw [h115] at h117
        have h122 : ∀ b, b ∈ fp0 → ¬ S42 b := fun b hb => (h52.lt b hb).2
        have c119 := Cx.ofUp C.sb u118
        have h123 : ∀ b, b ∈ fp120 → b ∈ fp0 ∨ w92.heap.size ≤ b := fun b hb => (h121 b hb).elim .inl (h110 b)
        have h124 : ∀ b, b ∈ fp120 → b ∈ fp0 ∨ w.heap.size ≤ b := fun b hb => (h123 b hb).elim (hs0 b) (fun hl => .inr (Nat.le_trans C.up.size hl))
        replace h7 := h7.cf c119 h122
        replace C := C.ofc c119 hs0
        have z125 := (u118).size
        refine ⟨trivial, ?_⟩
        refine MT.e (k80 _ _ ?_)
        refine cw_seq fun K126 k127 => ?_
        refine cw_region (sv (mvv v0 rfl) (sv (rv_nilcheck rfl h117.ptr) (sv (rv_fieldAddr (b := pb v0) (o := 0) st67 rfl h117.ptr) (sr (rw_ofield (i := 2) (c := .int .i64 y114.many) h117 ag3 (h117.sc (i := 2) rfl) rfl) ?_))))
        obtain ⟨y128, h129, h⟩ := pur_some h
        refine sv (rv_add rfl rfl h129) (sv (rv_nilcheck rfl h117.ptr) (sv (rv_fieldAddr (b := pb v0) (o := 0) st67 rfl h117.ptr) ?_))
        obtain ⟨y130, h131, h⟩ := pur_some h
        have h136 : ∀ b, b ∈ fp120 → ¬ S42 b := fun b hb => (h117.lt b hb).2
        refine sc (dc_ofield (i := 2) (k := (kI .i64)) (h1 := rfl) (a' := y128) h117 rfl ag3 rfl rfl (rep_sc.2 rfl) fun w132 h133 u134 => ?_)
        replace h133 : Ob 67 (head_Head.fs ({ y114 with many := y128 } : head_Head)) S42 w132 v0 (cs0.set 2 (.int .i64 y128)) fp120 := h133
        rw [h131] at h133
        obtain ⟨cs137, h138⟩ : ∃ cs, cs = cs0.set 2 (.int .i64 y128) := ⟨_, rfl⟩
        rw [← h138] at h133
        have c135 := Cx.ofUp C.sb u134
        have h139 : cs137[1]? = some c53 := by rw [h138, List.getElem?_set_ne (by decide)]; exact h54
        replace h7 := h7.cf c135 h136
        replace C := C.ofc c135 h124
        refine W.e (k127 _ _ ?_)
        obtain ⟨o140, h143, h⟩ := bnd_some h
        refine cw_seq' (fun ρ w1 => ∃ S1 fp179 cs181, Cx (fun b => b ∈ fp0) S w S1 w1 ∧ Has ρ [] ∧ Ob 67 (head_Head.fs o140) S1 w1 v0 cs181 fp179 ∧ (∀ b, b ∈ fp179 → b ∈ fp0 ∨ w.heap.size ≤ b)) ?_ ?_
        · obtain ⟨o144, h147, h143⟩ := bnd_some h143
          refine cw_seq' (fun ρ w1 => ∃ S1, Cx (fun b => b ∈ fp0) S w S1 w1 ∧ Has ρ [(0, v0), (5, .pointer (some ⟨b3, 0, none⟩)), (79, .bool o144)] ∧ Bs S1 w1 b3 [.int .i64 a2.T, .int .i64 a2.V] 29 ∧ Ob 67 (head_Head.fs y130) S1 w1 v0 cs137 fp120) ?_ ?_
          · refine cw_drawU (.one 0 true (.one 1 true (.one 2 true (.one 3 true (.one 4 true (.one 5 true (.one 6 true (.one 7 true (.one 8 true (.one 9 true (.one 10 true (.one 11 true (.one 12 true (.one 13 true .done)))))))))))))) [(3, [9]), (7, [9]), (11, [9])] [] (fun c => bif Nat.beq c 9 then (fun _ => True) else No) fol (by kernel_rfl) fun w148 u149 => ?_
            replace h133 := h133.nw u149
            replace h7 := h7.nw u149
            replace C := C.new u149
            have m150 := Sm.refl (fun _ => True) w148
            refine mtv rfl rfl (mvv v0 rfl) (mtv rfl rfl (rv_nilcheck rfl h133.ptr) (mtv rfl rfl (rv_fieldAddr (b := pb v0) (o := 0) st67 rfl h133.ptr) (mtr rfl rfl ⟨m150, trivial⟩ (fun w' hq => rw_ofieldU (i := 4) (c := .bool y130.any) h133 (hq.1.mono fun _ _ => trivial) ag4 (h133.sc (i := 4) rfl) rfl) (mtv rfl rfl (rv_not rfl) (mtv rfl rfl (mvv (.bool (!y130.any)) rfl) ?_)))))
            rcases bif_some h147 with ⟨b151, h147⟩ | ⟨b151, h147⟩
            · refine MT.n rfl rfl (gn rfl rfl rfl b151) trivial (MT.n rfl rfl (gn rfl rfl rfl b151) ⟨m150, trivial⟩ (MT.n rfl rfl (gn rfl rfl rfl b151) trivial (MT.n rfl rfl (gn rfl rfl rfl b151) trivial (MT.n rfl rfl (gn rfl rfl rfl b151) trivial (MT.n rfl rfl (gn rfl rfl rfl b151) ⟨m150, trivial⟩ (MT.n rfl rfl (gn rfl rfl rfl b151) trivial (mtv rfl rfl (ptk (.bool true) rfl b151 rfl) (MT.e ?_))))))))
              obtain rfl := Option.some.inj h147
              exact ⟨_, C, ⟨rfl, rfl, rfl, trivial⟩, h7, h133⟩
            · refine MT.vv rfl rfl (gy rfl rfl rfl b151) (rv_fieldAddr st29 rfl rfl) (MT.r rfl rfl (gy rfl rfl rfl b151) ⟨m150, trivial⟩ (fun w' hq => rw_bk ag3 (h7.sm (hq.1.mono fun _ _ => trivial)) rfl rfl) (MT.vv rfl rfl (gy rfl rfl rfl b151) (mvv v0 rfl) (MT.vv rfl rfl (gy rfl rfl rfl b151) (rv_nilcheck rfl h133.ptr) (MT.vv rfl rfl (gy rfl rfl rfl b151) (rv_fieldAddr (b := pb v0) (o := 0) st67 rfl h133.ptr) (MT.r rfl rfl (gy rfl rfl rfl b151) ⟨m150, trivial⟩ (fun w' hq => rw_ofieldU (i := 3) (c := .int .i64 y130.last) h133 (hq.1.mono fun _ _ => trivial) ag3 (h133.sc (i := 3) rfl) rfl) (MT.vv rfl rfl (gy rfl rfl rfl b151) (rv_gtr rfl rfl) (mtv rfl rfl (pfk (.bool (decide (y130.last < a2.T))) rfl b151 rfl) (MT.e ?_))))))))
              obtain rfl := Option.some.inj h147
              exact ⟨_, C, ⟨rfl, rfl, rfl, trivial⟩, h7, h133⟩
          · rintro ρ w153 ⟨S152, C, h154, h7, h133⟩
            refine h154.cw fun ρ => ?_
            clear h154
            rcases bif_some h143 with ⟨b155, h143⟩ | ⟨b155, h143⟩
            · refine cw_t rfl b155 (cw_region (sv (mvv v0 rfl) (sv (mvv v0 rfl) (sv (rv_fieldAddr st29 rfl rfl) (sr (rw_bk ag3 h7.2 rfl rfl) (sv (rv_nilcheck rfl h133.ptr) (sv (rv_fieldAddr (b := pb v0) (o := 0) st67 rfl h133.ptr) ?_)))))))
              obtain ⟨y156, h157, h143⟩ := pur_some h143
              have h162 : ∀ b, b ∈ fp120 → ¬ S152 b := fun b hb => (h133.lt b hb).2
              refine sc (dc_ofield (i := 3) (k := (kI .i64)) (h1 := rfl) (a' := a2.T) h133 rfl ag3 rfl rfl (rep_sc.2 rfl) fun w158 h159 u160 => ?_)
              replace h159 : Ob 67 (head_Head.fs ({ y130 with last := a2.T } : head_Head)) S152 w158 v0 (cs137.set 3 (.int .i64 a2.T)) fp120 := h159
              rw [h157] at h159
              obtain ⟨cs163, h164⟩ : ∃ cs, cs = cs137.set 3 (.int .i64 a2.T) := ⟨_, rfl⟩
              rw [← h164] at h159
              have c161 := Cx.ofUp C.sb u160
              have h165 : cs163[1]? = some c53 := by rw [h164, List.getElem?_set_ne (by decide)]; exact h139
              replace C := C.ofc c161 h124
              refine sv (rv_nilcheck rfl h159.ptr) (sv (rv_fieldAddr (b := pb v0) (o := 0) st67 rfl h159.ptr) ?_)
              obtain ⟨y166, h167, h143⟩ := pur_some h143
              have h172 : ∀ b, b ∈ fp120 → ¬ S152 b := fun b hb => (h159.lt b hb).2
              refine sc (dc_ofield (i := 4) (k := kB) (h1 := rfl) (a' := true) h159 rfl ag4 rfl rfl (rep_sc.2 rfl) fun w168 h169 u170 => ?_)
              replace h169 : Ob 67 (head_Head.fs ({ y156 with any := true } : head_Head)) S152 w168 v0 (cs163.set 4 (.bool true)) fp120 := h169
              rw [h167] at h169
              obtain ⟨cs173, h174⟩ : ∃ cs, cs = cs163.set 4 (.bool true) := ⟨_, rfl⟩
              rw [← h174] at h169
              have c171 := Cx.ofUp C.sb u170
              have h175 : cs173[1]? = some c53 := by rw [h174, List.getElem?_set_ne (by decide)]; exact h165
              replace C := C.ofc c171 h124
              refine W.e ?_
              obtain rfl := Option.some.inj h143
              exact ⟨_, _, _, C, trivial, h169, h124⟩
            · refine cw_f rfl b155 (cw_skip ?_)
              obtain rfl := Option.some.inj h143
              exact ⟨_, _, _, C, trivial, h133, h124⟩
        · rintro ρ w177 ⟨S176, fp179, cs181, C, h182, h178, h180⟩
          refine h182.cw fun ρ => ?_
          clear h182
          refine cw_seq fun K183 k184 => ?_
          refine cw_region (sv (asv (.int .i64 0) rfl) (W.e (k184 _ _ (cw_ret ?_))))
          obtain rfl := Option.some.inj h
          exact ⟨_, rfl, _, _, _, rfl, C, h178, h180⟩

def slices_Sort_int_int (a0 : List Int) : Option (List Int) := some (a0.mergeSort fun x y => decide (x ≤ y))
set_option maxRecDepth 100000 in
theorem slices_Sort_int_int_w {S : Nat → Prop} {w : World} {a0 : List Int} {v0 : Value} {base : Nat} {r : List Int} (hS : Sb S w) (h0 : Ow (kI .i64) 3 S base w v0 a0) (h : slices_Sort_int_int a0 = some r) :
    Calls Try.prog 39 (List.toArray [v0]) w fun e w1 => e = .returned (.tuple (List.toArray [])) ∧ Up (Blk v0) w w1 ∧ Ow (kI .i64) 3 S base w1 v0 r :=
  sortI_w Try.slices_Sort_int Try.slices_Sort_int_none hS h0 (Option.some.inj h)

noncomputable def head_Head_Ids (a0 : Option head_Head) : Option (List Int) := match a0 with
  | none => some []
  | some x => keys_ (x.series.map (·.1))
set_option maxRecDepth 100000 in
set_option maxHeartbeats 4000000 in
theorem head_Head_Ids_w {S : Nat → Prop} {w : World} {a0 : Option head_Head} {v0 : Value} {cs0 : List Value} {fp0 : List Nat} {r : List Int} (hS : Sb S w) (h0 : Obo 67 head_Head.fs S w v0 a0 cs0 fp0) (h : head_Head_Ids a0 = some r) :
    Calls Try.prog 20 (List.toArray [v0]) w fun e w1 => ∃ S1 u0, e = .returned (u0) ∧ Cx No S w S1 w1 ∧ Ow (kI .i64) 3 S1 w.heap.size w1 u0 r := by
  refine enter Try.func20 rfl (by kernel_rfl) rfl ?_
  have C := Cx.refl (F := No) hS
  unfold head_Head_Ids at h
  refine cw_seq fun K1 k1 => cw_region (sv (asv (.slice none 0 0) rfl) (W.e (k1 _ _ ?_)))
  refine cw_seq fun K2 k2 => cw_seq fun K3 k3 => cw_region (sv (mvv v0 rfl) (sv (rv_nileq Try.underlying23 rfl rfl h0.ne) (W.e (k3 _ _ ?_))))
  cases a0 with
  | none =>
    refine cw_t rfl rfl (cw_seq fun K4 k4 => cw_region (sv (asv (.slice none 0 0) rfl) (W.e (k4 _ _ (cw_ret ?_)))))
    obtain rfl := Option.some.inj h
    exact ⟨_, rfl, S, _, rfl, C, Ow.nil _ _ _ _ _⟩
  | some x =>
  refine cw_f rfl rfl (cw_skip (k2 _ _ ?_))
  have hq : Ob 67 (head_Head.fs x) S w v0 cs0 fp0 := h0
  obtain ⟨hlen, hr⟩ := keys_some h
  refine cw_seq fun K5 k5 => cw_region (sv (asv (.slice none 0 0) rfl) (W.e (k5 _ _ ?_)))
  obtain ⟨c, hc⟩ := hq.at (i := 1) rfl
  obtain ⟨fi, hrep, hsub⟩ := Ob.rep hq (i := 1) rfl hc
  obtain ⟨b, L, cl, rfl, hfi, hSb, hM, hR⟩ := hrep
  have hbf : b ∈ fp0 := hsub b (by rw [hfi]; simp)
  have hlt : ∀ q ∈ fp0, q < w.heap.size := fun q hq2 => (hq.lt q hq2).1
  have hk : L.map (·.1) = x.series.map (·.1) := hR.keys
  refine cw_seq' (fun ρ w2 => ∃ u ks, Cx No S w S w2 ∧ Has ρ [(3, u)] ∧ Ow (kI .i64) 3 S w.heap.size w2 u ks ∧ ks.Perm (L.map (·.1))) ?_ ?_
  · refine cw_seq fun K6 k6 => ?_
    refine cw_region (sv (mvv v0 rfl) ?_)
    refine sv (rv_nilcheck rfl hq.ptr) (sv (rv_fieldAddr (b := pb v0) (o := 0) st67 rfl hq.ptr) (sr (rw_ofield (i := 1) (c := .map (some b)) hq ag65 hc rfl) ?_))
    refine sc (dc_range hM Try.underlying65 rfl fun rb w1 hrb hrl hI up => ?_)
    replace C := C.new up
    replace hM := hM.to (up.block b hM.lt fun h => h)
    refine W.e (k6 _ _ ?_)
    refine cw_block (cw_loop (fun n ρ w2 => ∃ rem lst u ks, n = rem.length ∧ Cx No S w S w2 ∧ Has ρ [(3, u), (11, .pointer (some ⟨rb, 0, none⟩))] ∧ Mp ((kyI Try.underlying3)) w2 b L cl ∧ It w2 rb b L cl rem lst ∧ Ow (kI .i64) 3 S w.heap.size w2 u ks ∧ (ks ++ rem.map (·.1)).Perm (L.map (·.1)) ∧ ¬ Blk u rb) _ ⟨L, none, _, [], rfl, C, ⟨rfl, rfl, trivial⟩, hM, hI, Ow.nil _ _ _ _ _, List.Perm.refl _, fun hb => ap_nil (B := fun _ => True) _ hb trivial⟩ ?_)
    clear C hM hI
    rintro n ρ w2 ⟨rem, lst, u, ks, rfl, C, hh, hM, hI, hO, hP, hrb2⟩
    refine hh.cw fun ρ => ?_
    clear hh
    have hbw : b < w.heap.size := hlt b hbf
    refine cw_seq fun K7 k7 => ?_
    refine cw_region (sc (dc_next hM hI rfl ?_ ?_))
    · rintro rfl
      refine sv (rv_extract rfl rfl) (W.e (k7 _ _ ?_))
      refine cw_seq fun K8 k8 => cw_f rfl rfl (cw_exit ⟨u, ks, C, ⟨rfl, trivial⟩, hO, by simpa using hP⟩)
    · intro e w3 he hI2 up2
      refine sv (rv_extract rfl rfl) (W.e (k7 _ _ ?_))
      refine cw_seq fun K8 k8 => cw_t rfl rfl (cw_skip (k8 _ _ ?_))
      replace C := C.ofp up2 (fun q hq => .inr (by have hq : q = rb := hq; omega))
      have hrS : ∀ q, One rb q → ¬ S q := fun q hq hs => by have hq : q = rb := hq; have := hS q hs; omega
      replace hO := hO.wr up2 hrS (fun q h1 h2 => by have h2 : q = rb := h2; rw [h2] at h1; exact hrb2 h1)
      replace hM := hM.to (up2.block b hM.lt fun hq => by have hq : b = rb := hq; omega)
      have heL : e ∈ L := hI.sub.subset he
      refine cw_block (cw_seq fun K10 k10 => ?_)
      refine cw_region (sr (rw_entry hM hI2 heL rfl) (sv (rv_extract rfl rfl) (sv (asv (.int .i64 e.1) rfl) (W.e (k10 _ _ ?_)))))
      refine cw_region (sv (mvv u rfl) (sv (mvv (.int .i64 e.1) rfl) (sc (dc_lit (vs := [.int .i64 e.1]) (xs := [e.1]) (base := w.heap.size) el51 rfl rfl (.cons (sl_sc.2 rfl) .nil) (Nat.le_of_ble_eq_true rfl) C.up.size C.sb fun u2 w4 hO2 hb2 up4 => ?_))))
      replace C := C.new up4
      replace hO := hO.nw up4
      replace hM := hM.to (up4.block b hM.lt fun h => h)
      replace hI2 := hI2.to (up4.block rb hI2.lt fun h => h)
      have hp1 : (ks ++ [e.1] ++ (rem.filter fun z => !decide (e.2.2 = z.2.2)).map (·.1)).Perm (L.map (·.1)) := (keys_step he (hI.born hM)).trans hP
      have happ : app_ 8 ks [e.1] = some (ks ++ [e.1]) := by
        have := hp1.length_eq
        simp only [List.length_append, List.length_map, List.length_cons, List.length_nil] at this
        have hk2 := congrArg List.length hk
        simp only [List.length_map] at hk2 hlen
        unfold app_
        rw [if_pos (by simp only [List.length_cons, List.length_nil]; omega)]
      refine sc (dc_append el51 (by decide) hO hO2.src rfl rfl happ C.up.size C.sb fun u3 w5 hO3 up5 hb3 => ?_)
      have hbu : ∀ q, q < w.heap.size → ¬ Blk u q := fun q hq hb => by have := (hO.lt q hb).1; omega
      have hrl2 := hI2.lt
      replace C := C.ow hO up5
      replace hM := hM.to (up5.block b hM.lt (hbu b hbw))
      have hI3 := hI2.to (up5.block rb hrl2 hrb2)
      refine sv (asv u3 rfl) (W.e ?_)
      refine ⟨_, rest_lt he, _, some e, u3, ks ++ [e.1], rfl, C, ⟨rfl, rfl, trivial⟩, hM, hI3, hO3, hp1, fun hb => (hb3 rb hb).elim hrb2 (fun hl => by omega)⟩
  · rintro ρ w2 ⟨u, ks, C, hh, hO, hP⟩
    refine hh.cw fun ρ => ?_
    clear hh
    refine cw_seq fun K11 k11 => cw_region (sv (mvv u rfl) (sc (dc_call (vs := [u]) can39 rfl ?_)))
    refine (slices_Sort_int_int_w C.sb hO rfl).mono ?_
    rintro _ w3 ⟨rfl, up3, hO3⟩
    refine ⟨_, rfl, W.e (k11 _ _ ?_)⟩
    replace C := C.ow hO up3
    refine cw_seq fun K12 k12 => cw_region (sv (mvv u rfl) (sv (asv u rfl) (W.e (k12 _ _ (cw_ret ?_)))))
    have he : (ks.mergeSort fun x y => decide (x ≤ y)) = r := by
      rw [← hr, ← hk]
      exact keys_perm hP
    rw [he] at hO3
    exact ⟨_, rfl, S, u, rfl, C, hO3⟩


set_option maxRecDepth 100000 in
set_option maxHeartbeats 4000000 in
theorem slices_IndexFunc_api_Point_api_Point_w {S : Nat → Prop} {w : World} {a0 : List api_Point} {v0 : Value} {f : FuncId} {cs : List Value} {p : api_Point → Option Bool} {r : Int} (hS : Sb S w) (h0 : Sl (kSl api_Point.k) S w v0 a0) (hc : CanE Try.prog f = true)
    (hf : ∀ x w' v, Up No w w' → Sl api_Point.k S w' v x → ∀ b, p x = some b → Calls Try.prog f ([v] ++ cs).toArray w' fun e w1 => e = .returned (.bool b) ∧ Up No w' w1) (h : indexFunc_ p a0 0 = some r) :
    Calls Try.prog 34 (List.toArray [v0, .func (.func f) #[] cs.toArray]) w fun e w1 => e = .returned (.int .i64 r) ∧ Up No w w1 := by
  refine enter Try.func34 rfl (by kernel_rfl) rfl ?_
  have hlim : a0.length ≤ lim := by obtain ⟨_, _, _, _, hl, _⟩ := sl_slice.1 h0; exact hl
  refine cw_seq fun K0 k0 => ?_
  refine cw_region (sv (asv (.int .i64 0) rfl) (W.e (k0 _ _ ?_)))
  refine cw_seq' (fun ρ w1 => Up No w w1 ∧ r = -1) ?_ ?_
  · refine cw_seq fun K1 k1 => ?_
    refine cw_region (sv (mvv v0 rfl) ?_)
    refine sv (rv_lenS el33 h0 rfl) (sv (mvv (.int .i64 0) rfl) (W.e (k1 _ _ ?_)))
    refine cw_block (cw_loop (fun n ρ w1 => ∃ i, n = a0.length - i ∧ i ≤ a0.length ∧ Up No w w1 ∧ indexFunc_ p (a0.drop i) (i : Int) = some r ∧ Has ρ [(0, v0), (1, .func (.func f) #[] cs.toArray), (7, .int .i64 (a0.length : Int)), (8, .int .i64 (i : Int))]) _ ⟨0, rfl, Nat.zero_le _, Up.refl _ _, h, ⟨rfl, rfl, rfl, rfl, trivial⟩⟩ ?_)
    rintro n ρ w1 ⟨i, rfl, hi, up, hr, hh⟩
    refine hh.cw fun ρ => ?_
    clear hh
    refine cw_seq fun K2 k2 => ?_
    refine cw_region (sv (rv_lss rfl rfl) (W.e (k2 _ _ ?_)))
    refine cw_seq fun K3 k3 => ?_
    by_cases hlt : i < a0.length
    · refine cw_t rfl (by simp; omega) (cw_skip (k3 _ _ ?_))
      obtain ⟨x, hx⟩ : ∃ x, a0[i]? = some x := ⟨_, List.getElem?_eq_getElem hlt⟩
      have hat : at_ a0 (i : Int) = some x := by simp [at_, hx]
      have hd : a0.drop i = x :: a0.drop (i + 1) := by
        have := List.drop_eq_getElem_cons hlt
        rw [List.getElem?_eq_getElem hlt] at hx
        rw [this, Option.some.inj hx]
      rw [hd] at hr
      obtain ⟨b, hb, hr⟩ := bnd_some hr
      refine cw_seq fun K4 k4 => ?_
      refine cw_block ?_
      refine cw_seq fun K5 k5 => ?_
      refine cw_region (sv (mvv (.int .i64 (i : Int)) rfl) (sv (asv (.int .i64 (i : Int)) rfl) (W.e (k5 _ _ ?_))))
      refine cw_seq fun K6 k6 => ?_
      have h1 := h0.nw up
      refine cw_region (sv (mvv (.func (.func f) #[] cs.toArray) rfl) (sv (mvv v0 rfl) (sv (mvv (.int .i64 (i : Int)) rfl) ?_)))
      refine sv (rv_index el33 h1 rfl rfl hat) ?_
      obtain ⟨v, hv, hl⟩ := rw_loadA (P := Try.prog) el33 h1 hat
      refine sr (hl _ (Sm.refl _ _) rfl) ?_
      refine sc (dc_callC (vs := [v]) rfl hc rfl ?_)
      refine (hf x w1 v up hv b hb).mono ?_
      rintro _ w2 ⟨rfl, up2⟩
      refine ⟨_, rfl, W.e (k6 _ _ ?_)⟩
      cases b with
      | true =>
        refine cw_t rfl rfl ?_
        refine cw_seq fun K7 k7 => ?_
        refine cw_region (sv (mvv (.int .i64 (i : Int)) rfl) (sv (asv (.int .i64 (i : Int)) rfl) (W.e (k7 _ _ (cw_ret ?_)))))
        obtain rfl := Option.some.inj hr
        exact ⟨_, rfl, rfl, up.trans up2⟩
      | false =>
        refine cw_f rfl rfl (cw_skip (k4 _ _ ?_))
        unfold lim at hlim
        refine cw_region (sv (rv_add (r := ((i + 1 : Nat) : Int)) rfl rfl (by rw [IntKind.wrap_i64]; simp; omega)) (sv (mvv (.int .i64 ((i + 1 : Nat) : Int)) rfl) (W.e ?_)))
        exact ⟨_, by omega, i + 1, rfl, by omega, up.trans up2, by simpa using hr, ⟨rfl, rfl, rfl, rfl, trivial⟩⟩
    · refine cw_f rfl (by simp; omega) (cw_exit ?_)
      have : a0.drop i = [] := List.drop_eq_nil_of_le (by omega)
      rw [this] at hr
      exact ⟨up, (Option.some.inj hr).symm⟩
  · rintro ρ w1 ⟨up, rfl⟩
    refine cw_seq fun K1 k1 => ?_
    refine cw_region (sv (asv (.int .i64 (-1)) rfl) (W.e (k1 _ _ (cw_ret ?_))))
    exact ⟨_, rfl, rfl, up⟩

noncomputable def head_Head_Seal_1 (a0 : api_Point) (q0 : head_Head) : Option Bool :=
  ((head_Head_far q0 a0.T).bind fun y11 => some (!y11))
set_option maxRecDepth 100000 in
set_option maxHeartbeats 4000000 in
theorem head_Head_Seal_1_w {S : Nat → Prop} {w : World} {a0 : api_Point} {q0 : head_Head} {v0 vq0 : Value} {csq0 : List Value} {fpq0 : List Nat} {bb0 : Nat} {r : Bool} (hS : Sb S w) (h0 : Sl api_Point.k S w v0 a0) (hq0 : Ob 67 (head_Head.fs q0) S w vq0 csq0 fpq0) (hb0 : Bs S w bb0 [vq0] 23) (h : head_Head_Seal_1 a0 q0 = some r) :
    Calls Try.prog 35 (List.toArray [v0, .pointer (some ⟨bb0, 0, none⟩)]) w fun e w1 => ∃ S1, e = .returned (.bool r) ∧ Cx No S w S1 w1 := by
  refine enter Try.func35 rfl (by kernel_rfl) rfl ?_
  have C := Cx.refl (F := No) hS
  unfold head_Head_Seal_1 at h
  obtain rfl := api_Point.o.1 h0
  have hlq0 : ∀ b ∈ fpq0, b < w.heap.size := fun b hb => (hq0.lt b hb).1
  refine cw_seq fun K1 k2 => ?_
  refine cw_region ?_
  refine sc (dc_boxS C.sb rfl fun b3 S4 w5 c6 h7 => ?_)
  replace hb0 := hb0.cx c6
  replace hq0 := hq0.cx c6
  replace C := C.trans c6
  refine sv (asv (.bool false) rfl) (W.e (k2 _ _ ?_))
  refine cw_seq fun K9 k10 => ?_
  refine cw_region (sr (rw_bk ag23 hb0.2 rfl rfl) (sv (rv_fieldAddr st29 rfl rfl) (sr (rw_bk ag3 h7.2 rfl rfl) ?_)))
  obtain ⟨y11, h12, h⟩ := bnd_some h
  refine sc (dc_call (vs := [vq0, .int .i64 a0.T]) can30 rfl ?_)
  refine (head_Head_far_w C.sb hq0 h12).mono ?_
  rintro _ w13 ⟨S14, rfl, c15⟩
  refine ⟨_, rfl, ?_⟩
  replace C := C.trans c15
  refine sv (rv_not rfl) (sv (asv (.bool (!y11)) rfl) (W.e (k10 _ _ (cw_ret ?_))))
  obtain rfl := Option.some.inj h
  exact ⟨_, rfl, _, rfl, C⟩

def slices_Clone_api_Point_api_Point (a0 : List api_Point) : Option (List api_Point) := clone_ 16 a0
set_option maxRecDepth 100000 in
theorem slices_Clone_api_Point_api_Point_w {S : Nat → Prop} {w : World} {a0 : List api_Point} {v0 : Value} {r : List api_Point} (hS : Sb S w) (h0 : Sl (kSl api_Point.k) S w v0 a0) (h : slices_Clone_api_Point_api_Point a0 = some r) :
    Calls Try.prog 38 (List.toArray [v0]) w fun e w1 => ∃ S1 u0, e = .returned u0 ∧ Cx No S w S1 w1 ∧ Ow api_Point.k 29 S1 w.heap.size w1 u0 r := by
  refine enter Try.func38 rfl (by kernel_rfl) rfl ?_
  have C := Cx.refl (F := No) hS
  unfold slices_Clone_api_Point_api_Point at h
  refine cw_seq fun K1 k1 => cw_region (sv rv_assign (W.e (k1 _ _ ?_)))
  obtain ⟨A, c, rfl, _, _, hA⟩ := sl_slice.1 h0
  refine cw_seq fun K2 k2 => cw_seq fun K3 k3 => cw_region (sv rv_move (sv (rv_slnil Try.underlying33 rfl rfl) (W.e (k3 _ _ ?_))))
  cases A with
  | none =>
    refine cw_t rfl rfl (cw_seq fun K4 k4 => cw_region (sv rv_assign (W.e (k4 _ _ (cw_ret ?_)))))
    have : a0 = [] := hA.elim (fun h => h) fun ⟨_, _, h, _⟩ => by cases h
    subst this
    obtain rfl := clone_nil h
    exact ⟨_, rfl, S, _, rfl, C, Ow.nil _ _ _ _ _⟩
  | some a =>
    refine cw_f rfl rfl (cw_skip (k2 _ _ ?_))
    refine cw_seq fun K5 k5 => cw_region ?_
    refine sc (dc_lit (vs := []) (xs := ([] : List api_Point)) (base := w.heap.size) el33 rfl rfl .nil (Nat.le_of_ble_eq_true rfl) C.up.size C.sb fun u w1 ho hb up => ?_)
    replace h0 := h0.nw up
    replace C := C.new up
    refine sv rv_move (sc (dc_append el33 (by decide) ho (h0.src fun _ h => h) rfl rfl (clone_app h) C.up.size C.sb fun u2 w2 ho2 up2 hb2 => ?_))
    replace C := C.ow ho up2
    exact sv rv_assign (W.e (k5 _ _ (cw_ret ⟨_, rfl, S, _, rfl, C, ho2⟩)))

noncomputable def merge_Of_1 (a0 : api_Point) (a1 : api_Point) : Option Int :=
  ((cmp_Compare_int a0.T a1.T).bind fun y17 => some y17)
set_option maxRecDepth 100000 in
set_option maxHeartbeats 4000000 in
theorem merge_Of_1_w {S : Nat → Prop} {w : World} {a0 : api_Point} {a1 : api_Point} {v0 v1 : Value} {r : Int} (hS : Sb S w) (h0 : Sl api_Point.k S w v0 a0) (h1 : Sl api_Point.k S w v1 a1) (h : merge_Of_1 a0 a1 = some r) :
    Calls Try.prog 46 (List.toArray [v0, v1]) w fun e w1 => ∃ S1, e = .returned (.int .i64 r) ∧ Cx No S w S1 w1 := by
  refine enter Try.func46 rfl (by kernel_rfl) rfl ?_
  have C := Cx.refl (F := No) hS
  unfold merge_Of_1 at h
  obtain rfl := api_Point.o.1 h0
  obtain rfl := api_Point.o.1 h1
  refine cw_seq fun K1 k2 => ?_
  refine cw_region ?_
  refine sc (dc_boxS C.sb rfl fun b3 S4 w5 c6 h7 => ?_)
  replace C := C.trans c6
  refine sc (dc_boxS C.sb rfl fun b9 S10 w11 c12 h13 => ?_)
  replace h7 := h7.cx c12
  replace C := C.trans c12
  refine sv (asv (.int .i64 0) rfl) (W.e (k2 _ _ ?_))
  refine cw_seq fun K15 k16 => ?_
  refine cw_region (sv (rv_fieldAddr st29 rfl rfl) (sr (rw_bk ag3 h7.2 rfl rfl) (sv (rv_fieldAddr st29 rfl rfl) (sr (rw_bk ag3 h13.2 rfl rfl) ?_))))
  obtain ⟨y17, h18, h⟩ := bnd_some h
  refine sc (dc_call (vs := [.int .i64 a0.T, .int .i64 a1.T]) can42 rfl ?_)
  refine (cmp_Compare_int_w C.sb  h18).mono ?_
  rintro _ w19 ⟨S20, rfl, c21⟩
  refine ⟨_, rfl, ?_⟩
  replace C := C.trans c21
  refine sv (asv (.int .i64 y17) rfl) (W.e (k16 _ _ (cw_ret ?_)))
  obtain rfl := Option.some.inj h
  exact ⟨_, rfl, _, rfl, C⟩

noncomputable def slices_insertionSortCmpFunc_api_Point__merge_Of_1.b3 (a1 : Int) (x32 : List api_Point) (x33 : Int) : Option (((List api_Point) × Int) ⊕ ((List api_Point))) :=
  (((bif (decide (a1 < x33)) then ((at_ x32 x33).bind fun y48 => (pur (IntKind.i64.wrap (x33 - (1 : Int))) fun y53 => ((at_ x32 y53).bind fun y55 => ((merge_Of_1 y48 y55).bind fun y60 => some (x32, (decide (y60 < (0 : Int)))))))) else some (x32, false)).bind fun o40 => (bif o40.2 then some (.inl o40.1) else some (.inr (.inr o40.1)))).bind (Sum.elim (fun o36n => (pur (IntKind.i64.wrap (x33 - (1 : Int))) fun y84 => (pur (IntKind.i64.wrap (x33 - (1 : Int))) fun y86 => ((at_ o36n y86).bind fun y88 => ((at_ o36n x33).bind fun y93 => ((at_ o36n x33).bind fun y98 => (pur (o36n.set (x33).toNat y88) fun y100 => ((at_ y100 y84).bind fun y107 => (pur (y100.set (y84).toNat y93) fun y109 => (pur (IntKind.i64.wrap (x33 - (1 : Int))) fun y116 => some (.inl (y109, y116)))))))))))) (fun q => some q)))
noncomputable def slices_insertionSortCmpFunc_api_Point__merge_Of_1.b1 (a1 : Int) (a2 : Int) (x11 : List api_Point) (x12 : Int) : Option (((List api_Point) × Int) ⊕ ((List api_Point))) :=
  (bif (decide (x12 < a2)) then ((iter (fun s : (List api_Point) × Int => slices_insertionSortCmpFunc_api_Point__merge_Of_1.b3 a1 s.1 s.2) (x11, x12)).bind fun o20 => (pur (IntKind.i64.wrap (x12 + (1 : Int))) fun y123 => some (.inl (o20, y123)))) else some (.inr x11))
noncomputable def slices_insertionSortCmpFunc_api_Point__merge_Of_1 (a0 : List api_Point) (a1 : Int) (a2 : Int) : Option (List api_Point) :=
  (pur (IntKind.i64.wrap (a1 + (1 : Int))) fun y3 => (iter (fun s : (List api_Point) × Int => slices_insertionSortCmpFunc_api_Point__merge_Of_1.b1 a1 a2 s.1 s.2) (a0, y3)))
set_option maxRecDepth 100000 in
set_option maxHeartbeats 4000000 in
theorem slices_insertionSortCmpFunc_api_Point__merge_Of_1_w {S : Nat → Prop} {w : World} {a0 : List api_Point} {a1 : Int} {a2 : Int} {v0 : Value} {base0 : Nat} {r : (List api_Point)} (hS : Sb S w) (h0 : Ow api_Point.k 29 S base0 w v0 a0) (h : slices_insertionSortCmpFunc_api_Point__merge_Of_1 a0 a1 a2 = some r) :
    Calls Try.prog 64 (List.toArray [v0, .int .i64 a1, .int .i64 a2, .func (.func 46) #[] #[]]) w fun e w1 => ∃ S1, e = .returned (.tuple (List.toArray [])) ∧ Cx (Blk v0) S w S1 w1 ∧ Ow api_Point.k 29 S1 base0 w1 v0 r := by
  refine enter Try.func64 rfl (by kernel_rfl) rfl ?_
  have C := Cx.refl (F := (Blk v0)) hS
  unfold slices_insertionSortCmpFunc_api_Point__merge_Of_1 at h
  refine cw_seq fun K1 k2 => ?_
  refine cw_region (sv (mvv (.int .i64 a1) rfl) ?_)
  obtain ⟨y3, h4, h⟩ := pur_some h
  refine sv (rv_add rfl rfl h4) (sv (asv (.int .i64 y3) rfl) (W.e (k2 _ _ (cw_block ?_))))
  refine cw_iter h (fun s ρ w1 => ∃ S1, Cx (Blk v0) S w S1 w1 ∧ Has ρ [(0, v0), (1, .int .i64 a1), (2, .int .i64 a2), (3, .func (.func 46) #[] #[]), (8, .int .i64 s.2)] ∧ Ow api_Point.k 29 S1 base0 w1 v0 s.1) ⟨_, C, ⟨rfl, rfl, rfl, rfl, rfl, trivial⟩, h0⟩ ?_
  rintro ⟨x11, x12⟩ q5 ρ w7 ⟨S6, C, h10, h9⟩ h14 h13
  refine h10.cw fun ρ => ?_
  clear h10
  replace h14 : slices_insertionSortCmpFunc_api_Point__merge_Of_1.b1 a1 a2 x11 x12 = some q5 := h14
  unfold slices_insertionSortCmpFunc_api_Point__merge_Of_1.b1 at h14
  refine cw_seq fun K15 k16 => ?_
  refine cw_seq fun K17 k18 => ?_
  refine cw_region (sv (mvv (.int .i64 x12) rfl) (sv (mvv (.int .i64 a2) rfl) (sv (rv_lss rfl rfl) (W.e (k18 _ _ ?_)))))
  rcases bif_some h14 with ⟨b19, h14⟩ | ⟨b19, h14⟩
  · refine cw_t rfl b19 (cw_skip (k16 _ _ ?_))
    obtain ⟨o20, h23, h14⟩ := bnd_some h14
    refine cw_seq' (fun ρ w1 => ∃ S1, Cx (Blk v0) S w S1 w1 ∧ Has ρ [(0, v0), (1, .int .i64 a1), (2, .int .i64 a2), (3, .func (.func 46) #[] #[]), (8, .int .i64 x12)] ∧ Ow api_Point.k 29 S1 base0 w1 v0 o20) ?_ ?_
    · refine cw_block ?_
      refine cw_seq fun K24 k25 => ?_
      refine cw_region (sv (mvv (.int .i64 x12) rfl) (sv (asv (.int .i64 x12) rfl) (W.e (k25 _ _ (cw_block ?_)))))
      refine cw_iter h23 (fun s ρ w1 => ∃ S1, Cx (Blk v0) S w S1 w1 ∧ Has ρ [(0, v0), (1, .int .i64 a1), (2, .int .i64 a2), (3, .func (.func 46) #[] #[]), (8, .int .i64 x12), (9, .int .i64 s.2)] ∧ Ow api_Point.k 29 S1 base0 w1 v0 s.1) ⟨_, C, ⟨rfl, rfl, rfl, rfl, rfl, rfl, trivial⟩, h9⟩ ?_
      rintro ⟨x32, x33⟩ q26 ρ w28 ⟨S27, C, h31, h30⟩ h35 h34
      refine h31.cw fun ρ => ?_
      clear h31
      replace h35 : slices_insertionSortCmpFunc_api_Point__merge_Of_1.b3 a1 x32 x33 = some q26 := h35
      unfold slices_insertionSortCmpFunc_api_Point__merge_Of_1.b3 at h35
      obtain ⟨o36, h39, h35⟩ := bnds_some h35
      refine cw_seq' (fun ρ w1 => ∃ o36n, o36 = (.inl o36n) ∧ ∃ S1, Cx (Blk v0) S w S1 w1 ∧ Has ρ [(0, v0), (1, .int .i64 a1), (2, .int .i64 a2), (3, .func (.func 46) #[] #[]), (8, .int .i64 x12), (9, .int .i64 x33)] ∧ Ow api_Point.k 29 S1 base0 w1 v0 o36n) ?_ ?_
      · obtain ⟨o40, h43, h39⟩ := bnd_some h39
        refine cw_seq' (fun ρ w1 => ∃ S1, Cx (Blk v0) S w S1 w1 ∧ Has ρ [(0, v0), (1, .int .i64 a1), (2, .int .i64 a2), (3, .func (.func 46) #[] #[]), (8, .int .i64 x12), (9, .int .i64 x33), (34, .bool o40.2)] ∧ Ow api_Point.k 29 S1 base0 w1 v0 o40.1) ?_ ?_
        · refine cw_drawU (.one 0 true (.one 1 true (.one 2 true (.one 3 true (.one 4 true (.one 5 true (.one 6 true (.one 7 true (.one 8 true (.one 9 true (.one 10 true (.one 11 true (.one 12 true (.one 13 true (.one 14 false (.one 15 true (.one 16 true .done))))))))))))))))) [(8, [9]), (13, [9])] [(14, [])] (fun c => bif Nat.beq c 9 then (fun _ => True) else No) fol (by kernel_rfl) fun w44 u45 => ?_
          replace h30 := h30.nw u45
          replace C := C.new u45
          have h30d := h30
          have m46 := Sm.refl (fun _ => True) w44
          refine mtv rfl rfl (mvv (.int .i64 x33) rfl) (mtv rfl rfl (mvv (.int .i64 a1) rfl) (mtv rfl rfl (rv_gtr rfl rfl) (mtv rfl rfl (mvv (.bool (decide (a1 < x33))) rfl) ?_)))
          rcases bif_some h43 with ⟨b47, h43⟩ | ⟨b47, h43⟩
          · refine MT.vv rfl rfl (gy rfl rfl rfl b47) (mvv (.func (.func 46) #[] #[]) rfl) (MT.vv rfl rfl (gy rfl rfl rfl b47) (mvv v0 rfl) (MT.vv rfl rfl (gy rfl rfl rfl b47) (mvv (.int .i64 x33) rfl) ?_))
            obtain ⟨y48, h49, h43⟩ := bnd_some h43
            refine MT.vv rfl rfl (gy rfl rfl rfl b47) (rv_index el33 h30.sealed rfl rfl h49) ?_
            obtain ⟨v50, h51, h52⟩ := rw_loadO (P := Try.prog) el33 h30 h49
            obtain rfl := api_Point.o.1 h51
            refine MT.r rfl rfl (gy rfl rfl rfl b47) ⟨m46, trivial⟩ (fun w' hq => h52 w' (hq.1.mono fun _ _ => trivial) rfl) (MT.vv rfl rfl (gy rfl rfl rfl b47) (mvv v0 rfl) (MT.vv rfl rfl (gy rfl rfl rfl b47) (mvv (.int .i64 x33) rfl) ?_))
            obtain ⟨y53, h54, h43⟩ := pur_some h43
            refine MT.vv rfl rfl (gy rfl rfl rfl b47) (rv_sub rfl rfl h54) ?_
            obtain ⟨y55, h56, h43⟩ := bnd_some h43
            refine MT.vv rfl rfl (gy rfl rfl rfl b47) (rv_index el33 h30.sealed rfl rfl h56) ?_
            obtain ⟨v57, h58, h59⟩ := rw_loadO (P := Try.prog) el33 h30 h56
            obtain rfl := api_Point.o.1 h58
            refine MT.r rfl rfl (gy rfl rfl rfl b47) ⟨m46, trivial⟩ (fun w' hq => h59 w' (hq.1.mono fun _ _ => trivial) rfl) ?_
            obtain ⟨y60, h61, h43⟩ := bnd_some h43
            refine MT.c rfl rfl (gy rfl rfl rfl b47) (dc_callV rfl (vs := [.agg (List.toArray [.int .i64 y48.T, .int .i64 y48.V]), .agg (List.toArray [.int .i64 y55.T, .int .i64 y55.V])]) can46 rfl ?_)
            refine (merge_Of_1_w C.sb ((api_Point.o (x := y48)).2 rfl) ((api_Point.o (x := y55)).2 rfl) h61).mono ?_
            rintro _ w62 ⟨S63, rfl, c64⟩
            refine ⟨_, rfl, ?_⟩
            replace h30 := h30.cx c64
            replace C := C.trans c64
            have z65 := (c64.up).size
            have m66 := m46.nx c64.up (by omega)
            refine ⟨trivial, ?_⟩
            refine MT.vv rfl rfl (gy rfl rfl rfl b47) (rv_lss rfl rfl) (mtv rfl rfl (ptk (.bool (decide (y60 < (0 : Int)))) rfl b47 rfl) (MT.e ?_))
            obtain rfl := Option.some.inj h43
            exact ⟨_, C, ⟨rfl, rfl, rfl, rfl, rfl, rfl, rfl, trivial⟩, h30⟩
          · refine MT.n rfl rfl (gn rfl rfl rfl b47) trivial (MT.n rfl rfl (gn rfl rfl rfl b47) trivial (MT.n rfl rfl (gn rfl rfl rfl b47) trivial (MT.n rfl rfl (gn rfl rfl rfl b47) trivial (MT.n rfl rfl (gn rfl rfl rfl b47) ⟨m46, trivial⟩ (MT.n rfl rfl (gn rfl rfl rfl b47) trivial (MT.n rfl rfl (gn rfl rfl rfl b47) trivial (MT.n rfl rfl (gn rfl rfl rfl b47) trivial (MT.n rfl rfl (gn rfl rfl rfl b47) trivial (MT.n rfl rfl (gn rfl rfl rfl b47) ⟨m46, trivial⟩ (MT.m rfl rfl (gn rfl rfl rfl b47) trivial (MT.n rfl rfl (gn rfl rfl rfl b47) trivial ?_)))))))))))
            refine mtv rfl rfl (pfk (.bool false) rfl b47 rfl) (MT.e ?_)
            obtain rfl := Option.some.inj h43
            exact ⟨_, C, ⟨rfl, rfl, rfl, rfl, rfl, rfl, rfl, trivial⟩, h30⟩
        · rintro ρ w68 ⟨S67, C, h71, h70⟩
          refine h71.cw fun ρ => ?_
          clear h71
          rcases bif_some h39 with ⟨b72, h39⟩ | ⟨b72, h39⟩
          · refine cw_t rfl b72 (cw_skip ?_)
            obtain rfl := Option.some.inj h39
            exact ⟨_, rfl, ⟨_, C, ⟨rfl, rfl, rfl, rfl, rfl, rfl, trivial⟩, h70⟩⟩
          · refine cw_f rfl b72 (cw_exit ?_)
            obtain rfl := Option.some.inj h39
            replace h35 := h35.2 _ rfl
            obtain rfl := Option.some.inj h35
            have h73 := congrArg some h34
            obtain rfl := Option.some.inj h73
            exact ⟨_, C, ⟨rfl, rfl, rfl, rfl, rfl, trivial⟩, h70⟩
      · rintro ρ w75 ⟨o36n, rfl, ⟨S74, C, h78, h77⟩⟩
        replace h35 := h35.1 _ rfl
        refine h78.cw fun ρ => ?_
        clear h78
        refine cw_seq fun K79 k80 => ?_
        refine cw_block ?_
        refine cw_drawU (.one 0 true (.one 1 true (.one 2 true (.one 3 true (.one 4 true (.one 5 true (.one 6 true (.one 7 true (.one 8 true (.one 9 true (.one 10 true (.one 11 true (.one 12 true (.one 13 true (.one 14 true (.one 15 false (.one 16 true (.one 17 false .done)))))))))))))))))) [(9, [1000]), (13, [1000])] [(15, []), (17, [])] (fun c => bif Nat.beq c 1000 then (Or S74 (Blk v0)) else No) fol (by kernel_rfl) fun w81 u82 => ?_
        replace h77 := h77.nw u82
        replace C := C.new u82
        have h77d := h77
        have m83 := Sm.refl (Or S74 (Blk v0)) w81
        refine mtv rfl rfl (mvv v0 rfl) (mtv rfl rfl (mvv (.int .i64 x33) rfl) (mtv rfl rfl (mvv v0 rfl) (mtv rfl rfl (mvv (.int .i64 x33) rfl) ?_)))
        obtain ⟨y84, h85, h35⟩ := pur_some h35
        refine mtv rfl rfl (rv_sub rfl rfl h85) (mtv rfl rfl (mvv v0 rfl) (mtv rfl rfl (mvv (.int .i64 x33) rfl) ?_))
        obtain ⟨y86, h87, h35⟩ := pur_some h35
        refine mtv rfl rfl (rv_sub rfl rfl h87) ?_
        obtain ⟨y88, h89, h35⟩ := bnd_some h35
        refine mtv rfl rfl (rv_index el33 h77.sealed rfl rfl h89) ?_
        obtain ⟨v90, h91, h92⟩ := rw_loadO (P := Try.prog) el33 h77 h89
        obtain rfl := api_Point.o.1 h91
        refine mtr rfl rfl ⟨m83, trivial⟩ (fun w' hq => h92 w' hq.1 rfl) (mtv rfl rfl (mvv v0 rfl) (mtv rfl rfl (mvv (.int .i64 x33) rfl) ?_))
        obtain ⟨y93, h94, h35⟩ := bnd_some h35
        refine mtv rfl rfl (rv_index el33 h77.sealed rfl rfl h94) ?_
        obtain ⟨v95, h96, h97⟩ := rw_loadO (P := Try.prog) el33 h77 h94
        obtain rfl := api_Point.o.1 h96
        refine mtr rfl rfl ⟨m83, trivial⟩ (fun w' hq => h97 w' hq.1 rfl) ?_
        obtain ⟨y98, h99, h35⟩ := bnd_some h35
        refine mtv rfl rfl (rv_index el33 h77.sealed rfl rfl h99) ?_
        obtain ⟨y100, h101, h35⟩ := pur_some h35
        have h105 := h77
        refine mtc rfl rfl (dc_storeO el33 h105 h99 rfl rfl (((api_Point.o (x := y88)).2 rfl)) fun w102 h103 u104 => ?_)
        rw [h101] at h103
        replace C := C.ofp u104 (fun b hb => .inl hb)
        have z106 := (u104).size
        refine ⟨trivial, ?_⟩
        obtain ⟨y107, h108, h35⟩ := bnd_some h35
        refine mtv rfl rfl (rv_index el33 h103.sealed rfl rfl h108) ?_
        obtain ⟨y109, h110, h35⟩ := pur_some h35
        have h114 := h103
        refine mtc rfl rfl (dc_storeO el33 h114 h108 rfl rfl (((api_Point.o (x := y93)).2 rfl)) fun w111 h112 u113 => ?_)
        rw [h110] at h112
        replace C := C.ofp u113 (fun b hb => .inl hb)
        have z115 := (u113).size
        refine ⟨trivial, ?_⟩
        refine MT.e (k80 _ _ (cw_region (sv (mvv (.int .i64 x33) rfl) ?_)))
        obtain ⟨y116, h117, h35⟩ := pur_some h35
        refine sv (rv_sub rfl rfl h117) (sv (asv (.int .i64 y116) rfl) (W.e ?_))
        obtain rfl := Option.some.inj h35
        exact ⟨_, rfl, ⟨_, C, ⟨rfl, rfl, rfl, rfl, rfl, rfl, trivial⟩, h112⟩⟩
    · rintro ρ w119 ⟨S118, C, h122, h121⟩
      refine h122.cw fun ρ => ?_
      clear h122
      refine cw_region (sv (mvv (.int .i64 x12) rfl) ?_)
      obtain ⟨y123, h124, h14⟩ := pur_some h14
      refine sv (rv_add rfl rfl h124) (sv (asv (.int .i64 y123) rfl) (W.e ?_))
      obtain rfl := Option.some.inj h14
      exact ⟨_, rfl, ⟨_, C, ⟨rfl, rfl, rfl, rfl, rfl, trivial⟩, h121⟩⟩
  · refine cw_f rfl b19 (cw_exit ?_)
    obtain rfl := Option.some.inj h14
    have h125 := congrArg some h13
    obtain rfl := Option.some.inj h125
    exact ⟨_, rfl, _, rfl, C, h9⟩

noncomputable def slices_swapRangeCmpFunc_api_Point__merge_Of_1.b1 (a1 : Int) (a2 : Int) (a3 : Int) (x9 : List api_Point) (x10 : Int) : Option (((List api_Point) × Int) ⊕ ((List api_Point))) :=
  (bif (decide (x10 < a3)) then (pur (IntKind.i64.wrap (a1 + x10)) fun y23 => (pur (IntKind.i64.wrap (a2 + x10)) fun y25 => (pur (IntKind.i64.wrap (a2 + x10)) fun y27 => ((at_ x9 y27).bind fun y29 => (pur (IntKind.i64.wrap (a1 + x10)) fun y34 => ((at_ x9 y34).bind fun y36 => ((at_ x9 y23).bind fun y41 => (pur (x9.set (y23).toNat y29) fun y43 => ((at_ y43 y25).bind fun y50 => (pur (y43.set (y25).toNat y36) fun y52 => (pur (IntKind.i64.wrap (x10 + (1 : Int))) fun y59 => some (.inl (y52, y59))))))))))))) else some (.inr x9))
noncomputable def slices_swapRangeCmpFunc_api_Point__merge_Of_1 (a0 : List api_Point) (a1 : Int) (a2 : Int) (a3 : Int) : Option (List api_Point) :=
  (iter (fun s : (List api_Point) × Int => slices_swapRangeCmpFunc_api_Point__merge_Of_1.b1 a1 a2 a3 s.1 s.2) (a0, (0 : Int)))
set_option maxRecDepth 100000 in
set_option maxHeartbeats 4000000 in
theorem slices_swapRangeCmpFunc_api_Point__merge_Of_1_w {S : Nat → Prop} {w : World} {a0 : List api_Point} {a1 : Int} {a2 : Int} {a3 : Int} {v0 : Value} {base0 : Nat} {r : (List api_Point)} (hS : Sb S w) (h0 : Ow api_Point.k 29 S base0 w v0 a0) (h : slices_swapRangeCmpFunc_api_Point__merge_Of_1 a0 a1 a2 a3 = some r) :
    Calls Try.prog 73 (List.toArray [v0, .int .i64 a1, .int .i64 a2, .int .i64 a3, .func (.func 46) #[] #[]]) w fun e w1 => ∃ S1, e = .returned (.tuple (List.toArray [])) ∧ Cx (Blk v0) S w S1 w1 ∧ Ow api_Point.k 29 S1 base0 w1 v0 r := by
  refine enter Try.func73 rfl (by kernel_rfl) rfl ?_
  have C := Cx.refl (F := (Blk v0)) hS
  unfold slices_swapRangeCmpFunc_api_Point__merge_Of_1 at h
  refine cw_seq fun K1 k2 => ?_
  refine cw_region (sv (asv (.int .i64 0) rfl) (W.e (k2 _ _ (cw_block ?_))))
  refine cw_iter h (fun s ρ w1 => ∃ S1, Cx (Blk v0) S w S1 w1 ∧ Has ρ [(0, v0), (1, .int .i64 a1), (2, .int .i64 a2), (3, .int .i64 a3), (10, .int .i64 s.2)] ∧ Ow api_Point.k 29 S1 base0 w1 v0 s.1) ⟨_, C, ⟨rfl, rfl, rfl, rfl, rfl, trivial⟩, h0⟩ ?_
  rintro ⟨x9, x10⟩ q3 ρ w5 ⟨S4, C, h8, h7⟩ h12 h11
  refine h8.cw fun ρ => ?_
  clear h8
  replace h12 : slices_swapRangeCmpFunc_api_Point__merge_Of_1.b1 a1 a2 a3 x9 x10 = some q3 := h12
  unfold slices_swapRangeCmpFunc_api_Point__merge_Of_1.b1 at h12
  refine cw_seq fun K13 k14 => ?_
  refine cw_seq fun K15 k16 => ?_
  refine cw_region (sv (mvv (.int .i64 x10) rfl) (sv (mvv (.int .i64 a3) rfl) (sv (rv_lss rfl rfl) (W.e (k16 _ _ ?_)))))
  rcases bif_some h12 with ⟨b17, h12⟩ | ⟨b17, h12⟩
  · refine cw_t rfl b17 (cw_skip (k14 _ _ ?_))
    refine cw_seq fun K18 k19 => ?_
    refine cw_block ?_
    refine cw_drawU (.one 0 true (.one 1 true (.one 2 true (.one 3 true (.one 4 true (.one 5 true (.one 6 true (.one 7 true (.one 8 true (.one 9 true (.one 10 true (.one 11 true (.one 12 true (.one 13 true (.one 14 true (.one 15 true (.one 16 true (.one 17 true (.one 18 true (.one 19 true (.one 20 true (.one 21 false (.one 22 true (.one 23 false .done)))))))))))))))))))))))) [(13, [1000]), (19, [1000])] [(21, []), (23, [])] (fun c => bif Nat.beq c 1000 then (Or S4 (Blk v0)) else No) fol (by kernel_rfl) fun w20 u21 => ?_
    replace h7 := h7.nw u21
    replace C := C.new u21
    have h7d := h7
    have m22 := Sm.refl (Or S4 (Blk v0)) w20
    refine mtv rfl rfl (mvv v0 rfl) (mtv rfl rfl (mvv (.int .i64 a1) rfl) (mtv rfl rfl (mvv (.int .i64 x10) rfl) ?_))
    obtain ⟨y23, h24, h12⟩ := pur_some h12
    refine mtv rfl rfl (rv_add rfl rfl h24) (mtv rfl rfl (mvv v0 rfl) (mtv rfl rfl (mvv (.int .i64 a2) rfl) (mtv rfl rfl (mvv (.int .i64 x10) rfl) ?_)))
    obtain ⟨y25, h26, h12⟩ := pur_some h12
    refine mtv rfl rfl (rv_add rfl rfl h26) (mtv rfl rfl (mvv v0 rfl) (mtv rfl rfl (mvv (.int .i64 a2) rfl) (mtv rfl rfl (mvv (.int .i64 x10) rfl) ?_)))
    obtain ⟨y27, h28, h12⟩ := pur_some h12
    refine mtv rfl rfl (rv_add rfl rfl h28) ?_
    obtain ⟨y29, h30, h12⟩ := bnd_some h12
    refine mtv rfl rfl (rv_index el33 h7.sealed rfl rfl h30) ?_
    obtain ⟨v31, h32, h33⟩ := rw_loadO (P := Try.prog) el33 h7 h30
    obtain rfl := api_Point.o.1 h32
    refine mtr rfl rfl ⟨m22, trivial⟩ (fun w' hq => h33 w' hq.1 rfl) (mtv rfl rfl (mvv v0 rfl) (mtv rfl rfl (mvv (.int .i64 a1) rfl) (mtv rfl rfl (mvv (.int .i64 x10) rfl) ?_)))
    obtain ⟨y34, h35, h12⟩ := pur_some h12
    refine mtv rfl rfl (rv_add rfl rfl h35) ?_
    obtain ⟨y36, h37, h12⟩ := bnd_some h12
    refine mtv rfl rfl (rv_index el33 h7.sealed rfl rfl h37) ?_
    obtain ⟨v38, h39, h40⟩ := rw_loadO (P := Try.prog) el33 h7 h37
    obtain rfl := api_Point.o.1 h39
    refine mtr rfl rfl ⟨m22, trivial⟩ (fun w' hq => h40 w' hq.1 rfl) ?_
    obtain ⟨y41, h42, h12⟩ := bnd_some h12
    refine mtv rfl rfl (rv_index el33 h7.sealed rfl rfl h42) ?_
    obtain ⟨y43, h44, h12⟩ := pur_some h12
    have h48 := h7
    refine mtc rfl rfl (dc_storeO el33 h48 h42 rfl rfl (((api_Point.o (x := y29)).2 rfl)) fun w45 h46 u47 => ?_)
    rw [h44] at h46
    replace C := C.ofp u47 (fun b hb => .inl hb)
    have z49 := (u47).size
    refine ⟨trivial, ?_⟩
    obtain ⟨y50, h51, h12⟩ := bnd_some h12
    refine mtv rfl rfl (rv_index el33 h46.sealed rfl rfl h51) ?_
    obtain ⟨y52, h53, h12⟩ := pur_some h12
    have h57 := h46
    refine mtc rfl rfl (dc_storeO el33 h57 h51 rfl rfl (((api_Point.o (x := y36)).2 rfl)) fun w54 h55 u56 => ?_)
    rw [h53] at h55
    replace C := C.ofp u56 (fun b hb => .inl hb)
    have z58 := (u56).size
    refine ⟨trivial, ?_⟩
    refine MT.e (k19 _ _ (cw_region (sv (mvv (.int .i64 x10) rfl) ?_)))
    obtain ⟨y59, h60, h12⟩ := pur_some h12
    refine sv (rv_add rfl rfl h60) (sv (asv (.int .i64 y59) rfl) (W.e ?_))
    obtain rfl := Option.some.inj h12
    exact ⟨_, rfl, ⟨_, C, ⟨rfl, rfl, rfl, rfl, rfl, trivial⟩, h55⟩⟩
  · refine cw_f rfl b17 (cw_exit ?_)
    obtain rfl := Option.some.inj h12
    have h61 := congrArg some h11
    obtain rfl := Option.some.inj h61
    exact ⟨_, rfl, _, rfl, C, h7⟩

noncomputable def slices_rotateCmpFunc_api_Point__merge_Of_1.b2 (a2 : Int) (x19 : List api_Point) (x20 : Int) (x21 : Int) : Option (((List api_Point) × Int × Int) ⊕ ((List api_Point) × Int)) :=
  (bif (x20 != x21) then (bif (decide (x21 < x20)) then (pur (IntKind.i64.wrap (a2 - x20)) fun y34 => ((slices_swapRangeCmpFunc_api_Point__merge_Of_1 x19 y34 a2 x21).bind fun y36 => (pur (IntKind.i64.wrap (x20 - x21)) fun y45 => some (.inl (y36, y45, x21))))) else (pur (IntKind.i64.wrap (a2 - x20)) fun y49 => (pur (IntKind.i64.wrap (a2 + x21)) fun y51 => (pur (IntKind.i64.wrap (y51 - x20)) fun y53 => ((slices_swapRangeCmpFunc_api_Point__merge_Of_1 x19 y49 y53 x20).bind fun y55 => (pur (IntKind.i64.wrap (x21 - x20)) fun y64 => some (.inl (y55, x20, y64)))))))) else some (.inr (x19, x20)))
noncomputable def slices_rotateCmpFunc_api_Point__merge_Of_1 (a0 : List api_Point) (a1 : Int) (a2 : Int) (a3 : Int) : Option (List api_Point) :=
  (pur (IntKind.i64.wrap (a2 - a1)) fun y3 => (pur (IntKind.i64.wrap (a3 - a2)) fun y7 => ((iter (fun s : (List api_Point) × Int × Int => slices_rotateCmpFunc_api_Point__merge_Of_1.b2 a2 s.1 s.2.1 s.2.2) (a0, y3, y7)).bind fun o9 => (pur (IntKind.i64.wrap (a2 - o9.2)) fun y72 => ((slices_swapRangeCmpFunc_api_Point__merge_Of_1 o9.1 y72 a2 o9.2).bind fun y74 => some y74)))))
set_option maxRecDepth 100000 in
set_option maxHeartbeats 4000000 in
theorem slices_rotateCmpFunc_api_Point__merge_Of_1_w {S : Nat → Prop} {w : World} {a0 : List api_Point} {a1 : Int} {a2 : Int} {a3 : Int} {v0 : Value} {base0 : Nat} {r : (List api_Point)} (hS : Sb S w) (h0 : Ow api_Point.k 29 S base0 w v0 a0) (h : slices_rotateCmpFunc_api_Point__merge_Of_1 a0 a1 a2 a3 = some r) :
    Calls Try.prog 71 (List.toArray [v0, .int .i64 a1, .int .i64 a2, .int .i64 a3, .func (.func 46) #[] #[]]) w fun e w1 => ∃ S1, e = .returned (.tuple (List.toArray [])) ∧ Cx (Blk v0) S w S1 w1 ∧ Ow api_Point.k 29 S1 base0 w1 v0 r := by
  refine enter Try.func71 rfl (by kernel_rfl) rfl ?_
  have C := Cx.refl (F := (Blk v0)) hS
  unfold slices_rotateCmpFunc_api_Point__merge_Of_1 at h
  refine cw_seq fun K1 k2 => ?_
  refine cw_region (sv (mvv (.int .i64 a2) rfl) (sv (mvv (.int .i64 a1) rfl) ?_))
  obtain ⟨y3, h4, h⟩ := pur_some h
  refine sv (rv_sub rfl rfl h4) (sv (asv (.int .i64 y3) rfl) (W.e (k2 _ _ ?_)))
  refine cw_seq fun K5 k6 => ?_
  refine cw_region (sv (mvv (.int .i64 a3) rfl) (sv (mvv (.int .i64 a2) rfl) ?_))
  obtain ⟨y7, h8, h⟩ := pur_some h
  refine sv (rv_sub rfl rfl h8) (sv (asv (.int .i64 y7) rfl) (W.e (k6 _ _ ?_)))
  obtain ⟨o9, h12, h⟩ := bnd_some h
  refine cw_seq' (fun ρ w1 => ∃ S1, Cx (Blk v0) S w S1 w1 ∧ Has ρ [(0, v0), (2, .int .i64 a2), (4, .func (.func 46) #[] #[]), (10, .int .i64 o9.2)] ∧ Ow api_Point.k 29 S1 base0 w1 v0 o9.1) ?_ ?_
  · refine cw_block ?_
    refine cw_iter h12 (fun s ρ w1 => ∃ S1, Cx (Blk v0) S w S1 w1 ∧ Has ρ [(0, v0), (2, .int .i64 a2), (4, .func (.func 46) #[] #[]), (10, .int .i64 s.2.1), (11, .int .i64 s.2.2)] ∧ Ow api_Point.k 29 S1 base0 w1 v0 s.1) ⟨_, C, ⟨rfl, rfl, rfl, rfl, rfl, trivial⟩, h0⟩ ?_
    rintro ⟨x19, x20, x21⟩ q13 ρ w15 ⟨S14, C, h18, h17⟩ h23 h22
    refine h18.cw fun ρ => ?_
    clear h18
    replace h23 : slices_rotateCmpFunc_api_Point__merge_Of_1.b2 a2 x19 x20 x21 = some q13 := h23
    unfold slices_rotateCmpFunc_api_Point__merge_Of_1.b2 at h23
    refine cw_seq fun K24 k25 => ?_
    refine cw_seq fun K26 k27 => ?_
    refine cw_region (sv (mvv (.int .i64 x20) rfl) (sv (mvv (.int .i64 x21) rfl) (sv (rv_neq rfl rfl) (W.e (k27 _ _ ?_)))))
    rcases bif_some h23 with ⟨b28, h23⟩ | ⟨b28, h23⟩
    · refine cw_t rfl b28 (cw_skip (k25 _ _ (cw_block ?_)))
      refine cw_seq fun K29 k30 => ?_
      refine cw_region (sv (mvv (.int .i64 x20) rfl) (sv (mvv (.int .i64 x21) rfl) (sv (rv_gtr rfl rfl) (W.e (k30 _ _ ?_)))))
      rcases bif_some h23 with ⟨b31, h23⟩ | ⟨b31, h23⟩
      · refine cw_t rfl b31 ?_
        refine cw_seq fun K32 k33 => ?_
        refine cw_region (sv (mvv v0 rfl) (sv (mvv (.int .i64 a2) rfl) (sv (mvv (.int .i64 x20) rfl) ?_)))
        obtain ⟨y34, h35, h23⟩ := pur_some h23
        refine sv (rv_sub rfl rfl h35) (sv (mvv (.int .i64 a2) rfl) (sv (mvv (.int .i64 x21) rfl) (sv (mvv (.func (.func 46) #[] #[]) rfl) ?_)))
        obtain ⟨y36, h37, h23⟩ := bnd_some h23
        refine sc (dc_call (vs := [v0, .int .i64 y34, .int .i64 a2, .int .i64 x21, .func (.func 46) #[] #[]]) can73 rfl ?_)
        refine (slices_swapRangeCmpFunc_api_Point__merge_Of_1_w C.sb h17 h37).mono ?_
        rintro _ w38 ⟨S43, rfl, c44, h40⟩
        refine ⟨_, rfl, ?_⟩
        replace C := C.ofc c44 (fun b hb => .inl hb)
        refine W.e (k33 _ _ (cw_region (sv (mvv (.int .i64 x20) rfl) (sv (mvv (.int .i64 x21) rfl) ?_))))
        obtain ⟨y45, h46, h23⟩ := pur_some h23
        refine sv (rv_sub rfl rfl h46) (sv (asv (.int .i64 y45) rfl) (W.e ?_))
        obtain rfl := Option.some.inj h23
        exact ⟨_, rfl, ⟨_, C, ⟨rfl, rfl, rfl, rfl, rfl, trivial⟩, h40⟩⟩
      · refine cw_f rfl b31 ?_
        refine cw_seq fun K47 k48 => ?_
        refine cw_region (sv (mvv v0 rfl) (sv (mvv (.int .i64 a2) rfl) (sv (mvv (.int .i64 x20) rfl) ?_)))
        obtain ⟨y49, h50, h23⟩ := pur_some h23
        refine sv (rv_sub rfl rfl h50) (sv (mvv (.int .i64 a2) rfl) (sv (mvv (.int .i64 x21) rfl) ?_))
        obtain ⟨y51, h52, h23⟩ := pur_some h23
        refine sv (rv_add rfl rfl h52) (sv (mvv (.int .i64 x20) rfl) ?_)
        obtain ⟨y53, h54, h23⟩ := pur_some h23
        refine sv (rv_sub rfl rfl h54) (sv (mvv (.int .i64 x20) rfl) (sv (mvv (.func (.func 46) #[] #[]) rfl) ?_))
        obtain ⟨y55, h56, h23⟩ := bnd_some h23
        refine sc (dc_call (vs := [v0, .int .i64 y49, .int .i64 y53, .int .i64 x20, .func (.func 46) #[] #[]]) can73 rfl ?_)
        refine (slices_swapRangeCmpFunc_api_Point__merge_Of_1_w C.sb h17 h56).mono ?_
        rintro _ w57 ⟨S62, rfl, c63, h59⟩
        refine ⟨_, rfl, ?_⟩
        replace C := C.ofc c63 (fun b hb => .inl hb)
        refine W.e (k48 _ _ (cw_region (sv (mvv (.int .i64 x21) rfl) (sv (mvv (.int .i64 x20) rfl) ?_))))
        obtain ⟨y64, h65, h23⟩ := pur_some h23
        refine sv (rv_sub rfl rfl h65) (sv (asv (.int .i64 y64) rfl) (W.e ?_))
        obtain rfl := Option.some.inj h23
        exact ⟨_, rfl, ⟨_, C, ⟨rfl, rfl, rfl, rfl, rfl, trivial⟩, h59⟩⟩
    · refine cw_f rfl b28 (cw_exit ?_)
      obtain rfl := Option.some.inj h23
      have h66 := congrArg some h22
      obtain rfl := Option.some.inj h66
      exact ⟨_, C, ⟨rfl, rfl, rfl, rfl, trivial⟩, h17⟩
  · rintro ρ w68 ⟨S67, C, h71, h70⟩
    refine h71.cw fun ρ => ?_
    clear h71
    refine cw_region (sv (mvv v0 rfl) (sv (mvv (.int .i64 a2) rfl) (sv (mvv (.int .i64 o9.2) rfl) ?_)))
    obtain ⟨y72, h73, h⟩ := pur_some h
    refine sv (rv_sub rfl rfl h73) (sv (mvv (.int .i64 a2) rfl) (sv (mvv (.int .i64 o9.2) rfl) (sv (mvv (.func (.func 46) #[] #[]) rfl) ?_)))
    obtain ⟨y74, h75, h⟩ := bnd_some h
    refine sc (dc_call (vs := [v0, .int .i64 y72, .int .i64 a2, .int .i64 o9.2, .func (.func 46) #[] #[]]) can73 rfl ?_)
    refine (slices_swapRangeCmpFunc_api_Point__merge_Of_1_w C.sb h70 h75).mono ?_
    rintro _ w76 ⟨S81, rfl, c82, h78⟩
    refine ⟨_, rfl, ?_⟩
    replace C := C.ofc c82 (fun b hb => .inl hb)
    refine W.e ?_
    obtain rfl := Option.some.inj h
    exact ⟨_, rfl, _, rfl, C, h78⟩

noncomputable def slices_symMergeCmpFunc_api_Point__merge_Of_1.b2 (a1 : Int) (x22 : List api_Point) (x23 : Int) (x24 : Int) : Option (((List api_Point) × Int × Int) ⊕ ((List api_Point) × Int)) :=
  (bif (decide (x23 < x24)) then (pur (IntKind.i64.wrap (x23 + x24)) fun y34 => (pur (IntKind.u64.wrap y34) fun y36 => (pur (ishr .u64 y36 (1 : Int)) fun y38 => (pur (IntKind.i64.wrap y38) fun y40 => ((at_ x22 y40).bind fun y47 => ((at_ x22 a1).bind fun y52 => ((merge_Of_1 y47 y52).bind fun y57 => (bif (decide (y57 < (0 : Int))) then (pur (IntKind.i64.wrap (y40 + (1 : Int))) fun y65 => some (.inl (x22, y65, x24))) else some (.inl (x22, x23, y40)))))))))) else some (.inr (x22, x23)))
noncomputable def slices_symMergeCmpFunc_api_Point__merge_Of_1.b4 (o12 : ((List api_Point) × Int)) (x85 : List api_Point) (x86 : Int) : Option (((List api_Point) × Int) ⊕ ((List api_Point))) :=
  (pur (IntKind.i64.wrap (o12.2 - (1 : Int))) fun y93 => (bif (decide (x86 < y93)) then (pur (IntKind.i64.wrap (x86 + (1 : Int))) fun y101 => (pur (IntKind.i64.wrap (x86 + (1 : Int))) fun y103 => ((at_ x85 y103).bind fun y105 => ((at_ x85 x86).bind fun y110 => ((at_ x85 x86).bind fun y115 => (pur (x85.set (x86).toNat y105) fun y117 => ((at_ y117 y101).bind fun y124 => (pur (y117.set (y101).toNat y110) fun y126 => (pur (IntKind.i64.wrap (x86 + (1 : Int))) fun y133 => some (.inl (y126, y133))))))))))) else some (.inr x85)))
noncomputable def slices_symMergeCmpFunc_api_Point__merge_Of_1.b6 (a2 : Int) (x162 : List api_Point) (x163 : Int) (x164 : Int) : Option (((List api_Point) × Int × Int) ⊕ ((List api_Point) × Int)) :=
  (bif (decide (x163 < x164)) then (pur (IntKind.i64.wrap (x163 + x164)) fun y174 => (pur (IntKind.u64.wrap y174) fun y176 => (pur (ishr .u64 y176 (1 : Int)) fun y178 => (pur (IntKind.i64.wrap y178) fun y180 => ((at_ x162 a2).bind fun y187 => ((at_ x162 y180).bind fun y192 => ((merge_Of_1 y187 y192).bind fun y197 => (bif (!(decide (y197 < (0 : Int)))) then (pur (IntKind.i64.wrap (y180 + (1 : Int))) fun y205 => some (.inl (x162, y205, x164))) else some (.inl (x162, x163, y180)))))))))) else some (.inr (x162, x163)))
noncomputable def slices_symMergeCmpFunc_api_Point__merge_Of_1.b8 (o152 : ((List api_Point) × Int)) (x225 : List api_Point) (x226 : Int) : Option (((List api_Point) × Int) ⊕ ((List api_Point))) :=
  (bif (decide (o152.2 < x226)) then (pur (IntKind.i64.wrap (x226 - (1 : Int))) fun y239 => (pur (IntKind.i64.wrap (x226 - (1 : Int))) fun y241 => ((at_ x225 y241).bind fun y243 => ((at_ x225 x226).bind fun y248 => ((at_ x225 x226).bind fun y253 => (pur (x225.set (x226).toNat y243) fun y255 => ((at_ y255 y239).bind fun y262 => (pur (y255.set (y239).toNat y248) fun y264 => (pur (IntKind.i64.wrap (x226 - (1 : Int))) fun y271 => some (.inl (y264, y271))))))))))) else some (.inr x225))
noncomputable def slices_symMergeCmpFunc_api_Point__merge_Of_1.b11 (y313 : Int) (x325 : List api_Point) (x326 : Int) (x327 : Int) : Option (((List api_Point) × Int × Int) ⊕ ((List api_Point) × Int)) :=
  (bif (decide (x326 < x327)) then (pur (IntKind.i64.wrap (x326 + x327)) fun y337 => (pur (IntKind.u64.wrap y337) fun y339 => (pur (ishr .u64 y339 (1 : Int)) fun y341 => (pur (IntKind.i64.wrap y341) fun y343 => (pur (IntKind.i64.wrap (y313 - y343)) fun y350 => ((at_ x325 y350).bind fun y352 => ((at_ x325 y343).bind fun y357 => ((merge_Of_1 y352 y357).bind fun y362 => (bif (!(decide (y362 < (0 : Int)))) then (pur (IntKind.i64.wrap (y343 + (1 : Int))) fun y370 => some (.inl (x325, y370, x327))) else some (.inl (x325, x326, y343))))))))))) else some (.inr (x325, x326)))
noncomputable def slices_symMergeCmpFunc_api_Point__merge_Of_1 : Nat → (List api_Point) → Int → Int → Int → Option (List api_Point)
  | 0, _, _, _, _ => none
  | n + 1, a0, a1, a2, a3 =>
  (pur (IntKind.i64.wrap (a2 - a1)) fun y5 => (bif (y5 == (1 : Int)) then ((iter (fun s : (List api_Point) × Int × Int => slices_symMergeCmpFunc_api_Point__merge_Of_1.b2 a1 s.1 s.2.1 s.2.2) (a0, a2, a3)).bind fun o12 => ((iter (fun s : (List api_Point) × Int => slices_symMergeCmpFunc_api_Point__merge_Of_1.b4 o12 s.1 s.2) (o12.1, a1)).bind fun o73 => some o73)) else (pur (IntKind.i64.wrap (a3 - a2)) fun y145 => (bif (y145 == (1 : Int)) then ((iter (fun s : (List api_Point) × Int × Int => slices_symMergeCmpFunc_api_Point__merge_Of_1.b6 a2 s.1 s.2.1 s.2.2) (a0, a1, a2)).bind fun o152 => ((iter (fun s : (List api_Point) × Int => slices_symMergeCmpFunc_api_Point__merge_Of_1.b8 o152 s.1 s.2) (o152.1, a2)).bind fun o213 => some o213)) else (pur (IntKind.i64.wrap (a1 + a3)) fun y281 => (pur (IntKind.u64.wrap y281) fun y283 => (pur (ishr .u64 y283 (1 : Int)) fun y285 => (pur (IntKind.i64.wrap y285) fun y287 => (pur (IntKind.i64.wrap (y287 + a2)) fun y291 => ((bif (decide (y287 < a2)) then (pur (IntKind.i64.wrap (y291 - a3)) fun y304 => some (y304, y287)) else some (a1, a2)).bind fun o295 => (pur (IntKind.i64.wrap (y291 - (1 : Int))) fun y313 => ((iter (fun s : (List api_Point) × Int × Int => slices_symMergeCmpFunc_api_Point__merge_Of_1.b11 y313 s.1 s.2.1 s.2.2) (a0, o295.1, o295.2)).bind fun o315 => (pur (IntKind.i64.wrap (y291 - o315.2)) fun y380 => (((bif (decide (o315.2 < a2)) then some (decide (a2 < y380)) else some false).bind fun o386 => (bif o386 then ((slices_rotateCmpFunc_api_Point__merge_Of_1 o315.1 o315.2 a2 y380).bind fun y395 => some y395) else some o315.1)).bind fun o382 => (((bif (decide (a1 < o315.2)) then some (decide (o315.2 < y287)) else some false).bind fun o413 => (bif o413 then ((slices_symMergeCmpFunc_api_Point__merge_Of_1 n o382 a1 o315.2 y287).bind fun y422 => some y422) else some o382)).bind fun o409 => ((bif (decide (y287 < y380)) then some (decide (y380 < a3)) else some false).bind fun o436 => (bif o436 then ((slices_symMergeCmpFunc_api_Point__merge_Of_1 n o409 y287 y380 a3).bind fun y445 => some y445) else some o409)))))))))))))))))
set_option maxRecDepth 100000 in
set_option maxHeartbeats 4000000 in
theorem slices_symMergeCmpFunc_api_Point__merge_Of_1_w (n : Nat) : ∀ {S : Nat → Prop} {w : World} {a0 : List api_Point} {a1 : Int} {a2 : Int} {a3 : Int} {v0 : Value} {base0 : Nat} {r : (List api_Point)} (hS : Sb S w) (h0 : Ow api_Point.k 29 S base0 w v0 a0) (h : slices_symMergeCmpFunc_api_Point__merge_Of_1 n a0 a1 a2 a3 = some r),
    Calls Try.prog 65 (List.toArray [v0, .int .i64 a1, .int .i64 a2, .int .i64 a3, .func (.func 46) #[] #[]]) w fun e w1 => ∃ S1, e = .returned (.tuple (List.toArray [])) ∧ Cx (Blk v0) S w S1 w1 ∧ Ow api_Point.k 29 S1 base0 w1 v0 r := by
  induction n with
  | zero => intros; rename_i h; rw [slices_symMergeCmpFunc_api_Point__merge_Of_1] at h; cases h
  | succ n ih =>
  intro S w a0 a1 a2 a3 v0 base0 r hS h0 h
  refine enter Try.func65 rfl (by kernel_rfl) rfl ?_
  have C := Cx.refl (F := (Blk v0)) hS
  rw [slices_symMergeCmpFunc_api_Point__merge_Of_1] at h
  refine cw_seq fun K1 k2 => ?_
  refine cw_seq fun K3 k4 => ?_
  refine cw_region (sv (mvv (.int .i64 a2) rfl) (sv (mvv (.int .i64 a1) rfl) ?_))
  obtain ⟨y5, h6, h⟩ := pur_some h
  refine sv (rv_sub rfl rfl h6) (sv (rv_eql rfl rfl) (W.e (k4 _ _ ?_)))
  rcases bif_some h with ⟨b7, h⟩ | ⟨b7, h⟩
  · refine cw_t rfl b7 ?_
    refine cw_seq fun K8 k9 => ?_
    refine cw_region (sv (mvv (.int .i64 a2) rfl) (sv (asv (.int .i64 a2) rfl) (W.e (k9 _ _ ?_))))
    refine cw_seq fun K10 k11 => ?_
    refine cw_region (sv (mvv (.int .i64 a3) rfl) (sv (asv (.int .i64 a3) rfl) (W.e (k11 _ _ ?_))))
    obtain ⟨o12, h15, h⟩ := bnd_some h
    refine cw_seq' (fun ρ w1 => ∃ S1, Cx (Blk v0) S w S1 w1 ∧ Has ρ [(0, v0), (1, .int .i64 a1), (10, .int .i64 o12.2)] ∧ Ow api_Point.k 29 S1 base0 w1 v0 o12.1) ?_ ?_
    · refine cw_block ?_
      refine cw_iter h15 (fun s ρ w1 => ∃ S1, Cx (Blk v0) S w S1 w1 ∧ Has ρ [(0, v0), (1, .int .i64 a1), (4, .func (.func 46) #[] #[]), (10, .int .i64 s.2.1), (11, .int .i64 s.2.2)] ∧ Ow api_Point.k 29 S1 base0 w1 v0 s.1) ⟨_, C, ⟨rfl, rfl, rfl, rfl, rfl, trivial⟩, h0⟩ ?_
      rintro ⟨x22, x23, x24⟩ q16 ρ w18 ⟨S17, C, h21, h20⟩ h26 h25
      refine h21.cw fun ρ => ?_
      clear h21
      replace h26 : slices_symMergeCmpFunc_api_Point__merge_Of_1.b2 a1 x22 x23 x24 = some q16 := h26
      unfold slices_symMergeCmpFunc_api_Point__merge_Of_1.b2 at h26
      refine cw_seq fun K27 k28 => ?_
      refine cw_seq fun K29 k30 => ?_
      refine cw_region (sv (mvv (.int .i64 x23) rfl) (sv (mvv (.int .i64 x24) rfl) (sv (rv_lss rfl rfl) (W.e (k30 _ _ ?_)))))
      rcases bif_some h26 with ⟨b31, h26⟩ | ⟨b31, h26⟩
      · refine cw_t rfl b31 (cw_skip (k28 _ _ (cw_block ?_)))
        refine cw_seq fun K32 k33 => ?_
        refine cw_region (sv (mvv (.int .i64 x23) rfl) (sv (mvv (.int .i64 x24) rfl) ?_))
        obtain ⟨y34, h35, h26⟩ := pur_some h26
        refine sv (rv_add rfl rfl h35) ?_
        obtain ⟨y36, h37, h26⟩ := pur_some h26
        refine sv (rv_conv Try.underlying3 Try.underlying78 rfl h37) ?_
        obtain ⟨y38, h39, h26⟩ := pur_some h26
        refine sv (rv_shr rfl rfl (by decide) h39) ?_
        obtain ⟨y40, h41, h26⟩ := pur_some h26
        refine sv (rv_conv Try.underlying78 Try.underlying3 rfl h41) (sv (asv (.int .i64 y40) rfl) (W.e (k33 _ _ ?_)))
        refine cw_seq fun K42 k43 => ?_
        refine cw_drawU (.one 0 true (.one 1 true (.one 2 true (.one 3 true (.one 4 true (.one 5 true (.one 6 true (.one 7 true (.one 8 true (.one 9 false (.one 10 true .done))))))))))) [(4, [9]), (8, [9])] [(9, [])] (fun c => bif Nat.beq c 9 then (fun _ => True) else No) fol (by kernel_rfl) fun w44 u45 => ?_
        replace h20 := h20.nw u45
        replace C := C.new u45
        have h20d := h20
        have m46 := Sm.refl (fun _ => True) w44
        refine mtv rfl rfl (mvv (.func (.func 46) #[] #[]) rfl) (mtv rfl rfl (mvv v0 rfl) (mtv rfl rfl (mvv (.int .i64 y40) rfl) ?_))
        obtain ⟨y47, h48, h26⟩ := bnd_some h26
        refine mtv rfl rfl (rv_index el33 h20.sealed rfl rfl h48) ?_
        obtain ⟨v49, h50, h51⟩ := rw_loadO (P := Try.prog) el33 h20 h48
        obtain rfl := api_Point.o.1 h50
        refine mtr rfl rfl ⟨m46, trivial⟩ (fun w' hq => h51 w' (hq.1.mono fun _ _ => trivial) rfl) (mtv rfl rfl (mvv v0 rfl) (mtv rfl rfl (mvv (.int .i64 a1) rfl) ?_))
        obtain ⟨y52, h53, h26⟩ := bnd_some h26
        refine mtv rfl rfl (rv_index el33 h20.sealed rfl rfl h53) ?_
        obtain ⟨v54, h55, h56⟩ := rw_loadO (P := Try.prog) el33 h20 h53
        obtain rfl := api_Point.o.1 h55
        refine mtr rfl rfl ⟨m46, trivial⟩ (fun w' hq => h56 w' (hq.1.mono fun _ _ => trivial) rfl) ?_
        obtain ⟨y57, h58, h26⟩ := bnd_some h26
        refine mtc rfl rfl (dc_callV rfl (vs := [.agg (List.toArray [.int .i64 y47.T, .int .i64 y47.V]), .agg (List.toArray [.int .i64 y52.T, .int .i64 y52.V])]) can46 rfl ?_)
        refine (merge_Of_1_w C.sb ((api_Point.o (x := y47)).2 rfl) ((api_Point.o (x := y52)).2 rfl) h58).mono ?_
        rintro _ w59 ⟨S60, rfl, c61⟩
        refine ⟨_, rfl, ?_⟩
        replace h20 := h20.cx c61
        replace C := C.trans c61
        have z62 := (c61.up).size
        have m63 := m46.nx c61.up (by omega)
        refine ⟨trivial, ?_⟩
        refine mtv rfl rfl (rv_lss rfl rfl) (MT.e (k43 _ _ ?_))
        rcases bif_some h26 with ⟨b64, h26⟩ | ⟨b64, h26⟩
        · refine cw_t rfl b64 (cw_region (sv (mvv (.int .i64 y40) rfl) ?_))
          obtain ⟨y65, h66, h26⟩ := pur_some h26
          refine sv (rv_add rfl rfl h66) (sv (asv (.int .i64 y65) rfl) (W.e ?_))
          obtain rfl := Option.some.inj h26
          exact ⟨_, rfl, ⟨_, C, ⟨rfl, rfl, rfl, rfl, rfl, trivial⟩, h20⟩⟩
        · refine cw_f rfl b64 (cw_region (sv (mvv (.int .i64 y40) rfl) (sv (asv (.int .i64 y40) rfl) (W.e ?_))))
          obtain rfl := Option.some.inj h26
          exact ⟨_, rfl, ⟨_, C, ⟨rfl, rfl, rfl, rfl, rfl, trivial⟩, h20⟩⟩
      · refine cw_f rfl b31 (cw_exit ?_)
        obtain rfl := Option.some.inj h26
        have h67 := congrArg some h25
        obtain rfl := Option.some.inj h67
        exact ⟨_, C, ⟨rfl, rfl, rfl, trivial⟩, h20⟩
    · rintro ρ w69 ⟨S68, C, h72, h71⟩
      refine h72.cw fun ρ => ?_
      clear h72
      obtain ⟨o73, h76, h⟩ := bnd_some h
      refine cw_seq' (fun ρ w1 => ∃ S1, Cx (Blk v0) S w S1 w1 ∧ Has ρ [(0, v0)] ∧ Ow api_Point.k 29 S1 base0 w1 v0 o73) ?_ ?_
      · refine cw_seq fun K77 k78 => ?_
        refine cw_region (sv (mvv (.int .i64 a1) rfl) (sv (asv (.int .i64 a1) rfl) (W.e (k78 _ _ (cw_block ?_)))))
        refine cw_iter h76 (fun s ρ w1 => ∃ S1, Cx (Blk v0) S w S1 w1 ∧ Has ρ [(0, v0), (10, .int .i64 o12.2), (13, .int .i64 s.2)] ∧ Ow api_Point.k 29 S1 base0 w1 v0 s.1) ⟨_, C, ⟨rfl, rfl, rfl, trivial⟩, h71⟩ ?_
        rintro ⟨x85, x86⟩ q79 ρ w81 ⟨S80, C, h84, h83⟩ h88 h87
        refine h84.cw fun ρ => ?_
        clear h84
        replace h88 : slices_symMergeCmpFunc_api_Point__merge_Of_1.b4 o12 x85 x86 = some q79 := h88
        unfold slices_symMergeCmpFunc_api_Point__merge_Of_1.b4 at h88
        refine cw_seq fun K89 k90 => ?_
        refine cw_seq fun K91 k92 => ?_
        refine cw_region (sv (mvv (.int .i64 x86) rfl) (sv (mvv (.int .i64 o12.2) rfl) ?_))
        obtain ⟨y93, h94, h88⟩ := pur_some h88
        refine sv (rv_sub rfl rfl h94) (sv (rv_lss rfl rfl) (W.e (k92 _ _ ?_)))
        rcases bif_some h88 with ⟨b95, h88⟩ | ⟨b95, h88⟩
        · refine cw_t rfl b95 (cw_skip (k90 _ _ ?_))
          refine cw_seq fun K96 k97 => ?_
          refine cw_block ?_
          refine cw_drawU (.one 0 true (.one 1 true (.one 2 true (.one 3 true (.one 4 true (.one 5 true (.one 6 true (.one 7 true (.one 8 true (.one 9 true (.one 10 true (.one 11 true (.one 12 true (.one 13 true (.one 14 true (.one 15 false (.one 16 true (.one 17 false .done)))))))))))))))))) [(9, [1000]), (13, [1000])] [(15, []), (17, [])] (fun c => bif Nat.beq c 1000 then (Or S80 (Blk v0)) else No) fol (by kernel_rfl) fun w98 u99 => ?_
          replace h83 := h83.nw u99
          replace C := C.new u99
          have h83d := h83
          have m100 := Sm.refl (Or S80 (Blk v0)) w98
          refine mtv rfl rfl (mvv v0 rfl) (mtv rfl rfl (mvv (.int .i64 x86) rfl) (mtv rfl rfl (mvv v0 rfl) (mtv rfl rfl (mvv (.int .i64 x86) rfl) ?_)))
          obtain ⟨y101, h102, h88⟩ := pur_some h88
          refine mtv rfl rfl (rv_add rfl rfl h102) (mtv rfl rfl (mvv v0 rfl) (mtv rfl rfl (mvv (.int .i64 x86) rfl) ?_))
          obtain ⟨y103, h104, h88⟩ := pur_some h88
          refine mtv rfl rfl (rv_add rfl rfl h104) ?_
          obtain ⟨y105, h106, h88⟩ := bnd_some h88
          refine mtv rfl rfl (rv_index el33 h83.sealed rfl rfl h106) ?_
          obtain ⟨v107, h108, h109⟩ := rw_loadO (P := Try.prog) el33 h83 h106
          obtain rfl := api_Point.o.1 h108
          refine mtr rfl rfl ⟨m100, trivial⟩ (fun w' hq => h109 w' hq.1 rfl) (mtv rfl rfl (mvv v0 rfl) (mtv rfl rfl (mvv (.int .i64 x86) rfl) ?_))
          obtain ⟨y110, h111, h88⟩ := bnd_some h88
          refine mtv rfl rfl (rv_index el33 h83.sealed rfl rfl h111) ?_
          obtain ⟨v112, h113, h114⟩ := rw_loadO (P := Try.prog) el33 h83 h111
          obtain rfl := api_Point.o.1 h113
          refine mtr rfl rfl ⟨m100, trivial⟩ (fun w' hq => h114 w' hq.1 rfl) ?_
          obtain ⟨y115, h116, h88⟩ := bnd_some h88
          refine mtv rfl rfl (rv_index el33 h83.sealed rfl rfl h116) ?_
          obtain ⟨y117, h118, h88⟩ := pur_some h88
          have h122 := h83
          refine mtc rfl rfl (dc_storeO el33 h122 h116 rfl rfl (((api_Point.o (x := y105)).2 rfl)) fun w119 h120 u121 => ?_)
          rw [h118] at h120
          replace C := C.ofp u121 (fun b hb => .inl hb)
          have z123 := (u121).size
          refine ⟨trivial, ?_⟩
          obtain ⟨y124, h125, h88⟩ := bnd_some h88
          refine mtv rfl rfl (rv_index el33 h120.sealed rfl rfl h125) ?_
          obtain ⟨y126, h127, h88⟩ := pur_some h88
          have h131 := h120
          refine mtc rfl rfl (dc_storeO el33 h131 h125 rfl rfl (((api_Point.o (x := y110)).2 rfl)) fun w128 h129 u130 => ?_)
          rw [h127] at h129
          replace C := C.ofp u130 (fun b hb => .inl hb)
          have z132 := (u130).size
          refine ⟨trivial, ?_⟩
          refine MT.e (k97 _ _ (cw_region (sv (mvv (.int .i64 x86) rfl) ?_)))
          obtain ⟨y133, h134, h88⟩ := pur_some h88
          refine sv (rv_add rfl rfl h134) (sv (asv (.int .i64 y133) rfl) (W.e ?_))
          obtain rfl := Option.some.inj h88
          exact ⟨_, rfl, ⟨_, C, ⟨rfl, rfl, rfl, trivial⟩, h129⟩⟩
        · refine cw_f rfl b95 (cw_exit ?_)
          obtain rfl := Option.some.inj h88
          have h135 := congrArg some h87
          obtain rfl := Option.some.inj h135
          exact ⟨_, C, ⟨rfl, trivial⟩, h83⟩
      · rintro ρ w137 ⟨S136, C, h140, h139⟩
        refine h140.cw fun ρ => ?_
        clear h140
        refine cw_ret ?_
        obtain rfl := Option.some.inj h
        exact ⟨_, rfl, _, rfl, C, h139⟩
  · refine cw_f rfl b7 (cw_skip (k2 _ _ ?_))
    refine cw_seq fun K141 k142 => ?_
    refine cw_seq fun K143 k144 => ?_
    refine cw_region (sv (mvv (.int .i64 a3) rfl) (sv (mvv (.int .i64 a2) rfl) ?_))
    obtain ⟨y145, h146, h⟩ := pur_some h
    refine sv (rv_sub rfl rfl h146) (sv (rv_eql rfl rfl) (W.e (k144 _ _ ?_)))
    rcases bif_some h with ⟨b147, h⟩ | ⟨b147, h⟩
    · refine cw_t rfl b147 ?_
      refine cw_seq fun K148 k149 => ?_
      refine cw_region (sv (mvv (.int .i64 a1) rfl) (sv (asv (.int .i64 a1) rfl) (W.e (k149 _ _ ?_))))
      refine cw_seq fun K150 k151 => ?_
      refine cw_region (sv (mvv (.int .i64 a2) rfl) (sv (asv (.int .i64 a2) rfl) (W.e (k151 _ _ ?_))))
      obtain ⟨o152, h155, h⟩ := bnd_some h
      refine cw_seq' (fun ρ w1 => ∃ S1, Cx (Blk v0) S w S1 w1 ∧ Has ρ [(0, v0), (2, .int .i64 a2), (14, .int .i64 o152.2)] ∧ Ow api_Point.k 29 S1 base0 w1 v0 o152.1) ?_ ?_
      · refine cw_block ?_
        refine cw_iter h155 (fun s ρ w1 => ∃ S1, Cx (Blk v0) S w S1 w1 ∧ Has ρ [(0, v0), (2, .int .i64 a2), (4, .func (.func 46) #[] #[]), (14, .int .i64 s.2.1), (15, .int .i64 s.2.2)] ∧ Ow api_Point.k 29 S1 base0 w1 v0 s.1) ⟨_, C, ⟨rfl, rfl, rfl, rfl, rfl, trivial⟩, h0⟩ ?_
        rintro ⟨x162, x163, x164⟩ q156 ρ w158 ⟨S157, C, h161, h160⟩ h166 h165
        refine h161.cw fun ρ => ?_
        clear h161
        replace h166 : slices_symMergeCmpFunc_api_Point__merge_Of_1.b6 a2 x162 x163 x164 = some q156 := h166
        unfold slices_symMergeCmpFunc_api_Point__merge_Of_1.b6 at h166
        refine cw_seq fun K167 k168 => ?_
        refine cw_seq fun K169 k170 => ?_
        refine cw_region (sv (mvv (.int .i64 x163) rfl) (sv (mvv (.int .i64 x164) rfl) (sv (rv_lss rfl rfl) (W.e (k170 _ _ ?_)))))
        rcases bif_some h166 with ⟨b171, h166⟩ | ⟨b171, h166⟩
        · refine cw_t rfl b171 (cw_skip (k168 _ _ (cw_block ?_)))
          refine cw_seq fun K172 k173 => ?_
          refine cw_region (sv (mvv (.int .i64 x163) rfl) (sv (mvv (.int .i64 x164) rfl) ?_))
          obtain ⟨y174, h175, h166⟩ := pur_some h166
          refine sv (rv_add rfl rfl h175) ?_
          obtain ⟨y176, h177, h166⟩ := pur_some h166
          refine sv (rv_conv Try.underlying3 Try.underlying78 rfl h177) ?_
          obtain ⟨y178, h179, h166⟩ := pur_some h166
          refine sv (rv_shr rfl rfl (by decide) h179) ?_
          obtain ⟨y180, h181, h166⟩ := pur_some h166
          refine sv (rv_conv Try.underlying78 Try.underlying3 rfl h181) (sv (asv (.int .i64 y180) rfl) (W.e (k173 _ _ ?_)))
          refine cw_seq fun K182 k183 => ?_
          refine cw_drawU (.one 0 true (.one 1 true (.one 2 true (.one 3 true (.one 4 true (.one 5 true (.one 6 true (.one 7 true (.one 8 true (.one 9 false (.one 10 true (.one 11 true .done)))))))))))) [(4, [9]), (8, [9])] [(9, [])] (fun c => bif Nat.beq c 9 then (fun _ => True) else No) fol (by kernel_rfl) fun w184 u185 => ?_
          replace h160 := h160.nw u185
          replace C := C.new u185
          have h160d := h160
          have m186 := Sm.refl (fun _ => True) w184
          refine mtv rfl rfl (mvv (.func (.func 46) #[] #[]) rfl) (mtv rfl rfl (mvv v0 rfl) (mtv rfl rfl (mvv (.int .i64 a2) rfl) ?_))
          obtain ⟨y187, h188, h166⟩ := bnd_some h166
          refine mtv rfl rfl (rv_index el33 h160.sealed rfl rfl h188) ?_
          obtain ⟨v189, h190, h191⟩ := rw_loadO (P := Try.prog) el33 h160 h188
          obtain rfl := api_Point.o.1 h190
          refine mtr rfl rfl ⟨m186, trivial⟩ (fun w' hq => h191 w' (hq.1.mono fun _ _ => trivial) rfl) (mtv rfl rfl (mvv v0 rfl) (mtv rfl rfl (mvv (.int .i64 y180) rfl) ?_))
          obtain ⟨y192, h193, h166⟩ := bnd_some h166
          refine mtv rfl rfl (rv_index el33 h160.sealed rfl rfl h193) ?_
          obtain ⟨v194, h195, h196⟩ := rw_loadO (P := Try.prog) el33 h160 h193
          obtain rfl := api_Point.o.1 h195
          refine mtr rfl rfl ⟨m186, trivial⟩ (fun w' hq => h196 w' (hq.1.mono fun _ _ => trivial) rfl) ?_
          obtain ⟨y197, h198, h166⟩ := bnd_some h166
          refine mtc rfl rfl (dc_callV rfl (vs := [.agg (List.toArray [.int .i64 y187.T, .int .i64 y187.V]), .agg (List.toArray [.int .i64 y192.T, .int .i64 y192.V])]) can46 rfl ?_)
          refine (merge_Of_1_w C.sb ((api_Point.o (x := y187)).2 rfl) ((api_Point.o (x := y192)).2 rfl) h198).mono ?_
          rintro _ w199 ⟨S200, rfl, c201⟩
          refine ⟨_, rfl, ?_⟩
          replace h160 := h160.cx c201
          replace C := C.trans c201
          have z202 := (c201.up).size
          have m203 := m186.nx c201.up (by omega)
          refine ⟨trivial, ?_⟩
          refine mtv rfl rfl (rv_lss rfl rfl) (mtv rfl rfl (rv_not rfl) (MT.e (k183 _ _ ?_)))
          rcases bif_some h166 with ⟨b204, h166⟩ | ⟨b204, h166⟩
          · refine cw_t rfl b204 (cw_region (sv (mvv (.int .i64 y180) rfl) ?_))
            obtain ⟨y205, h206, h166⟩ := pur_some h166
            refine sv (rv_add rfl rfl h206) (sv (asv (.int .i64 y205) rfl) (W.e ?_))
            obtain rfl := Option.some.inj h166
            exact ⟨_, rfl, ⟨_, C, ⟨rfl, rfl, rfl, rfl, rfl, trivial⟩, h160⟩⟩
          · refine cw_f rfl b204 (cw_region (sv (mvv (.int .i64 y180) rfl) (sv (asv (.int .i64 y180) rfl) (W.e ?_))))
            obtain rfl := Option.some.inj h166
            exact ⟨_, rfl, ⟨_, C, ⟨rfl, rfl, rfl, rfl, rfl, trivial⟩, h160⟩⟩
        · refine cw_f rfl b171 (cw_exit ?_)
          obtain rfl := Option.some.inj h166
          have h207 := congrArg some h165
          obtain rfl := Option.some.inj h207
          exact ⟨_, C, ⟨rfl, rfl, rfl, trivial⟩, h160⟩
      · rintro ρ w209 ⟨S208, C, h212, h211⟩
        refine h212.cw fun ρ => ?_
        clear h212
        obtain ⟨o213, h216, h⟩ := bnd_some h
        refine cw_seq' (fun ρ w1 => ∃ S1, Cx (Blk v0) S w S1 w1 ∧ Has ρ [(0, v0)] ∧ Ow api_Point.k 29 S1 base0 w1 v0 o213) ?_ ?_
        · refine cw_seq fun K217 k218 => ?_
          refine cw_region (sv (mvv (.int .i64 a2) rfl) (sv (asv (.int .i64 a2) rfl) (W.e (k218 _ _ (cw_block ?_)))))
          refine cw_iter h216 (fun s ρ w1 => ∃ S1, Cx (Blk v0) S w S1 w1 ∧ Has ρ [(0, v0), (14, .int .i64 o152.2), (17, .int .i64 s.2)] ∧ Ow api_Point.k 29 S1 base0 w1 v0 s.1) ⟨_, C, ⟨rfl, rfl, rfl, trivial⟩, h211⟩ ?_
          rintro ⟨x225, x226⟩ q219 ρ w221 ⟨S220, C, h224, h223⟩ h228 h227
          refine h224.cw fun ρ => ?_
          clear h224
          replace h228 : slices_symMergeCmpFunc_api_Point__merge_Of_1.b8 o152 x225 x226 = some q219 := h228
          unfold slices_symMergeCmpFunc_api_Point__merge_Of_1.b8 at h228
          refine cw_seq fun K229 k230 => ?_
          refine cw_seq fun K231 k232 => ?_
          refine cw_region (sv (mvv (.int .i64 x226) rfl) (sv (mvv (.int .i64 o152.2) rfl) (sv (rv_gtr rfl rfl) (W.e (k232 _ _ ?_)))))
          rcases bif_some h228 with ⟨b233, h228⟩ | ⟨b233, h228⟩
          · refine cw_t rfl b233 (cw_skip (k230 _ _ ?_))
            refine cw_seq fun K234 k235 => ?_
            refine cw_block ?_
            refine cw_drawU (.one 0 true (.one 1 true (.one 2 true (.one 3 true (.one 4 true (.one 5 true (.one 6 true (.one 7 true (.one 8 true (.one 9 true (.one 10 true (.one 11 true (.one 12 true (.one 13 true (.one 14 true (.one 15 false (.one 16 true (.one 17 false .done)))))))))))))))))) [(9, [1000]), (13, [1000])] [(15, []), (17, [])] (fun c => bif Nat.beq c 1000 then (Or S220 (Blk v0)) else No) fol (by kernel_rfl) fun w236 u237 => ?_
            replace h223 := h223.nw u237
            replace C := C.new u237
            have h223d := h223
            have m238 := Sm.refl (Or S220 (Blk v0)) w236
            refine mtv rfl rfl (mvv v0 rfl) (mtv rfl rfl (mvv (.int .i64 x226) rfl) (mtv rfl rfl (mvv v0 rfl) (mtv rfl rfl (mvv (.int .i64 x226) rfl) ?_)))
            obtain ⟨y239, h240, h228⟩ := pur_some h228
            refine mtv rfl rfl (rv_sub rfl rfl h240) (mtv rfl rfl (mvv v0 rfl) (mtv rfl rfl (mvv (.int .i64 x226) rfl) ?_))
            obtain ⟨y241, h242, h228⟩ := pur_some h228
            refine mtv rfl rfl (rv_sub rfl rfl h242) ?_
            obtain ⟨y243, h244, h228⟩ := bnd_some h228
            refine mtv rfl rfl (rv_index el33 h223.sealed rfl rfl h244) ?_
            obtain ⟨v245, h246, h247⟩ := rw_loadO (P := Try.prog) el33 h223 h244
            obtain rfl := api_Point.o.1 h246
            refine mtr rfl rfl ⟨m238, trivial⟩ (fun w' hq => h247 w' hq.1 rfl) (mtv rfl rfl (mvv v0 rfl) (mtv rfl rfl (mvv (.int .i64 x226) rfl) ?_))
            obtain ⟨y248, h249, h228⟩ := bnd_some h228
            refine mtv rfl rfl (rv_index el33 h223.sealed rfl rfl h249) ?_
            obtain ⟨v250, h251, h252⟩ := rw_loadO (P := Try.prog) el33 h223 h249
            obtain rfl := api_Point.o.1 h251
            refine mtr rfl rfl ⟨m238, trivial⟩ (fun w' hq => h252 w' hq.1 rfl) ?_
            obtain ⟨y253, h254, h228⟩ := bnd_some h228
            refine mtv rfl rfl (rv_index el33 h223.sealed rfl rfl h254) ?_
            obtain ⟨y255, h256, h228⟩ := pur_some h228
            have h260 := h223
            refine mtc rfl rfl (dc_storeO el33 h260 h254 rfl rfl (((api_Point.o (x := y243)).2 rfl)) fun w257 h258 u259 => ?_)
            rw [h256] at h258
            replace C := C.ofp u259 (fun b hb => .inl hb)
            have z261 := (u259).size
            refine ⟨trivial, ?_⟩
            obtain ⟨y262, h263, h228⟩ := bnd_some h228
            refine mtv rfl rfl (rv_index el33 h258.sealed rfl rfl h263) ?_
            obtain ⟨y264, h265, h228⟩ := pur_some h228
            have h269 := h258
            refine mtc rfl rfl (dc_storeO el33 h269 h263 rfl rfl (((api_Point.o (x := y248)).2 rfl)) fun w266 h267 u268 => ?_)
            rw [h265] at h267
            replace C := C.ofp u268 (fun b hb => .inl hb)
            have z270 := (u268).size
            refine ⟨trivial, ?_⟩
            refine MT.e (k235 _ _ (cw_region (sv (mvv (.int .i64 x226) rfl) ?_)))
            obtain ⟨y271, h272, h228⟩ := pur_some h228
            refine sv (rv_sub rfl rfl h272) (sv (asv (.int .i64 y271) rfl) (W.e ?_))
            obtain rfl := Option.some.inj h228
            exact ⟨_, rfl, ⟨_, C, ⟨rfl, rfl, rfl, trivial⟩, h267⟩⟩
          · refine cw_f rfl b233 (cw_exit ?_)
            obtain rfl := Option.some.inj h228
            have h273 := congrArg some h227
            obtain rfl := Option.some.inj h273
            exact ⟨_, C, ⟨rfl, trivial⟩, h223⟩
        · rintro ρ w275 ⟨S274, C, h278, h277⟩
          refine h278.cw fun ρ => ?_
          clear h278
          refine cw_ret ?_
          obtain rfl := Option.some.inj h
          exact ⟨_, rfl, _, rfl, C, h277⟩
    · refine cw_f rfl b147 (cw_skip (k142 _ _ ?_))
      refine cw_seq fun K279 k280 => ?_
      refine cw_region (sv (mvv (.int .i64 a1) rfl) (sv (mvv (.int .i64 a3) rfl) ?_))
      obtain ⟨y281, h282, h⟩ := pur_some h
      refine sv (rv_add rfl rfl h282) ?_
      obtain ⟨y283, h284, h⟩ := pur_some h
      refine sv (rv_conv Try.underlying3 Try.underlying78 rfl h284) ?_
      obtain ⟨y285, h286, h⟩ := pur_some h
      refine sv (rv_shr rfl rfl (by decide) h286) ?_
      obtain ⟨y287, h288, h⟩ := pur_some h
      refine sv (rv_conv Try.underlying78 Try.underlying3 rfl h288) (sv (asv (.int .i64 y287) rfl) (W.e (k280 _ _ ?_)))
      refine cw_seq fun K289 k290 => ?_
      refine cw_region (sv (mvv (.int .i64 y287) rfl) (sv (mvv (.int .i64 a2) rfl) ?_))
      obtain ⟨y291, h292, h⟩ := pur_some h
      refine sv (rv_add rfl rfl h292) (sv (asv (.int .i64 y291) rfl) (W.e (k290 _ _ ?_)))
      refine cw_seq fun K293 k294 => ?_
      refine cw_region (sv (asv (.int .i64 0) rfl) (sv (asv (.int .i64 0) rfl) (W.e (k294 _ _ ?_))))
      obtain ⟨o295, h298, h⟩ := bnd_some h
      refine cw_seq' (fun ρ w1 => ∃ S1, Cx (Blk v0) S w S1 w1 ∧ Has ρ [(0, v0), (1, .int .i64 a1), (2, .int .i64 a2), (3, .int .i64 a3), (4, .func (.func 46) #[] #[]), (18, .int .i64 y287), (19, .int .i64 y291), (20, .int .i64 o295.1), (21, .int .i64 o295.2)] ∧ Ow api_Point.k 29 S1 base0 w1 v0 a0) ?_ ?_
      · refine cw_seq fun K299 k300 => ?_
        refine cw_region (sv (mvv (.int .i64 a2) rfl) (sv (mvv (.int .i64 y287) rfl) (sv (rv_gtr rfl rfl) (W.e (k300 _ _ ?_)))))
        rcases bif_some h298 with ⟨b301, h298⟩ | ⟨b301, h298⟩
        · refine cw_t rfl b301 ?_
          refine cw_seq fun K302 k303 => ?_
          refine cw_region (sv (mvv (.int .i64 y291) rfl) (sv (mvv (.int .i64 a3) rfl) ?_))
          obtain ⟨y304, h305, h298⟩ := pur_some h298
          refine sv (rv_sub rfl rfl h305) (sv (asv (.int .i64 y304) rfl) (W.e (k303 _ _ (cw_region (sv (mvv (.int .i64 y287) rfl) (sv (asv (.int .i64 y287) rfl) (W.e ?_)))))))
          obtain rfl := Option.some.inj h298
          exact ⟨_, C, ⟨rfl, rfl, rfl, rfl, rfl, rfl, rfl, rfl, rfl, trivial⟩, h0⟩
        · refine cw_f rfl b301 ?_
          refine cw_seq fun K306 k307 => ?_
          refine cw_region (sv (mvv (.int .i64 a1) rfl) (sv (asv (.int .i64 a1) rfl) (W.e (k307 _ _ (cw_region (sv (mvv (.int .i64 a2) rfl) (sv (asv (.int .i64 a2) rfl) (W.e ?_))))))))
          obtain rfl := Option.some.inj h298
          exact ⟨_, C, ⟨rfl, rfl, rfl, rfl, rfl, rfl, rfl, rfl, rfl, trivial⟩, h0⟩
      · rintro ρ w309 ⟨S308, C, h310, h0⟩
        refine h310.cw fun ρ => ?_
        clear h310
        refine cw_seq fun K311 k312 => ?_
        refine cw_region (sv (mvv (.int .i64 y291) rfl) ?_)
        obtain ⟨y313, h314, h⟩ := pur_some h
        refine sv (rv_sub rfl rfl h314) (sv (asv (.int .i64 y313) rfl) (W.e (k312 _ _ ?_)))
        obtain ⟨o315, h318, h⟩ := bnd_some h
        refine cw_seq' (fun ρ w1 => ∃ S1, Cx (Blk v0) S w S1 w1 ∧ Has ρ [(0, v0), (1, .int .i64 a1), (2, .int .i64 a2), (3, .int .i64 a3), (4, .func (.func 46) #[] #[]), (18, .int .i64 y287), (19, .int .i64 y291), (20, .int .i64 o315.2)] ∧ Ow api_Point.k 29 S1 base0 w1 v0 o315.1) ?_ ?_
        · refine cw_block ?_
          refine cw_iter h318 (fun s ρ w1 => ∃ S1, Cx (Blk v0) S w S1 w1 ∧ Has ρ [(0, v0), (1, .int .i64 a1), (2, .int .i64 a2), (3, .int .i64 a3), (4, .func (.func 46) #[] #[]), (18, .int .i64 y287), (19, .int .i64 y291), (20, .int .i64 s.2.1), (21, .int .i64 s.2.2), (22, .int .i64 y313)] ∧ Ow api_Point.k 29 S1 base0 w1 v0 s.1) ⟨_, C, ⟨rfl, rfl, rfl, rfl, rfl, rfl, rfl, rfl, rfl, rfl, trivial⟩, h0⟩ ?_
          rintro ⟨x325, x326, x327⟩ q319 ρ w321 ⟨S320, C, h324, h323⟩ h329 h328
          refine h324.cw fun ρ => ?_
          clear h324
          replace h329 : slices_symMergeCmpFunc_api_Point__merge_Of_1.b11 y313 x325 x326 x327 = some q319 := h329
          unfold slices_symMergeCmpFunc_api_Point__merge_Of_1.b11 at h329
          refine cw_seq fun K330 k331 => ?_
          refine cw_seq fun K332 k333 => ?_
          refine cw_region (sv (mvv (.int .i64 x326) rfl) (sv (mvv (.int .i64 x327) rfl) (sv (rv_lss rfl rfl) (W.e (k333 _ _ ?_)))))
          rcases bif_some h329 with ⟨b334, h329⟩ | ⟨b334, h329⟩
          · refine cw_t rfl b334 (cw_skip (k331 _ _ (cw_block ?_)))
            refine cw_seq fun K335 k336 => ?_
            refine cw_region (sv (mvv (.int .i64 x326) rfl) (sv (mvv (.int .i64 x327) rfl) ?_))
            obtain ⟨y337, h338, h329⟩ := pur_some h329
            refine sv (rv_add rfl rfl h338) ?_
            obtain ⟨y339, h340, h329⟩ := pur_some h329
            refine sv (rv_conv Try.underlying3 Try.underlying78 rfl h340) ?_
            obtain ⟨y341, h342, h329⟩ := pur_some h329
            refine sv (rv_shr rfl rfl (by decide) h342) ?_
            obtain ⟨y343, h344, h329⟩ := pur_some h329
            refine sv (rv_conv Try.underlying78 Try.underlying3 rfl h344) (sv (asv (.int .i64 y343) rfl) (W.e (k336 _ _ ?_)))
            refine cw_seq fun K345 k346 => ?_
            refine cw_drawU (.one 0 true (.one 1 true (.one 2 true (.one 3 true (.one 4 true (.one 5 true (.one 6 true (.one 7 true (.one 8 true (.one 9 true (.one 10 true (.one 11 false (.one 12 true (.one 13 true .done)))))))))))))) [(6, [9]), (10, [9])] [(11, [])] (fun c => bif Nat.beq c 9 then (fun _ => True) else No) fol (by kernel_rfl) fun w347 u348 => ?_
            replace h323 := h323.nw u348
            replace C := C.new u348
            have h323d := h323
            have m349 := Sm.refl (fun _ => True) w347
            refine mtv rfl rfl (mvv (.func (.func 46) #[] #[]) rfl) (mtv rfl rfl (mvv v0 rfl) (mtv rfl rfl (mvv (.int .i64 y313) rfl) (mtv rfl rfl (mvv (.int .i64 y343) rfl) ?_)))
            obtain ⟨y350, h351, h329⟩ := pur_some h329
            refine mtv rfl rfl (rv_sub rfl rfl h351) ?_
            obtain ⟨y352, h353, h329⟩ := bnd_some h329
            refine mtv rfl rfl (rv_index el33 h323.sealed rfl rfl h353) ?_
            obtain ⟨v354, h355, h356⟩ := rw_loadO (P := Try.prog) el33 h323 h353
            obtain rfl := api_Point.o.1 h355
            refine mtr rfl rfl ⟨m349, trivial⟩ (fun w' hq => h356 w' (hq.1.mono fun _ _ => trivial) rfl) (mtv rfl rfl (mvv v0 rfl) (mtv rfl rfl (mvv (.int .i64 y343) rfl) ?_))
            obtain ⟨y357, h358, h329⟩ := bnd_some h329
            refine mtv rfl rfl (rv_index el33 h323.sealed rfl rfl h358) ?_
            obtain ⟨v359, h360, h361⟩ := rw_loadO (P := Try.prog) el33 h323 h358
            obtain rfl := api_Point.o.1 h360
            refine mtr rfl rfl ⟨m349, trivial⟩ (fun w' hq => h361 w' (hq.1.mono fun _ _ => trivial) rfl) ?_
            obtain ⟨y362, h363, h329⟩ := bnd_some h329
            refine mtc rfl rfl (dc_callV rfl (vs := [.agg (List.toArray [.int .i64 y352.T, .int .i64 y352.V]), .agg (List.toArray [.int .i64 y357.T, .int .i64 y357.V])]) can46 rfl ?_)
            refine (merge_Of_1_w C.sb ((api_Point.o (x := y352)).2 rfl) ((api_Point.o (x := y357)).2 rfl) h363).mono ?_
            rintro _ w364 ⟨S365, rfl, c366⟩
            refine ⟨_, rfl, ?_⟩
            replace h323 := h323.cx c366
            replace C := C.trans c366
            have z367 := (c366.up).size
            have m368 := m349.nx c366.up (by omega)
            refine ⟨trivial, ?_⟩
            refine mtv rfl rfl (rv_lss rfl rfl) (mtv rfl rfl (rv_not rfl) (MT.e (k346 _ _ ?_)))
            rcases bif_some h329 with ⟨b369, h329⟩ | ⟨b369, h329⟩
            · refine cw_t rfl b369 (cw_region (sv (mvv (.int .i64 y343) rfl) ?_))
              obtain ⟨y370, h371, h329⟩ := pur_some h329
              refine sv (rv_add rfl rfl h371) (sv (asv (.int .i64 y370) rfl) (W.e ?_))
              obtain rfl := Option.some.inj h329
              exact ⟨_, rfl, ⟨_, C, ⟨rfl, rfl, rfl, rfl, rfl, rfl, rfl, rfl, rfl, rfl, trivial⟩, h323⟩⟩
            · refine cw_f rfl b369 (cw_region (sv (mvv (.int .i64 y343) rfl) (sv (asv (.int .i64 y343) rfl) (W.e ?_))))
              obtain rfl := Option.some.inj h329
              exact ⟨_, rfl, ⟨_, C, ⟨rfl, rfl, rfl, rfl, rfl, rfl, rfl, rfl, rfl, rfl, trivial⟩, h323⟩⟩
          · refine cw_f rfl b334 (cw_exit ?_)
            obtain rfl := Option.some.inj h329
            have h372 := congrArg some h328
            obtain rfl := Option.some.inj h372
            exact ⟨_, C, ⟨rfl, rfl, rfl, rfl, rfl, rfl, rfl, rfl, trivial⟩, h323⟩
        · rintro ρ w374 ⟨S373, C, h377, h376⟩
          refine h377.cw fun ρ => ?_
          clear h377
          refine cw_seq fun K378 k379 => ?_
          refine cw_region (sv (mvv (.int .i64 y291) rfl) (sv (mvv (.int .i64 o315.2) rfl) ?_))
          obtain ⟨y380, h381, h⟩ := pur_some h
          refine sv (rv_sub rfl rfl h381) (sv (asv (.int .i64 y380) rfl) (W.e (k379 _ _ ?_)))
          obtain ⟨o382, h385, h⟩ := bnd_some h
          refine cw_seq' (fun ρ w1 => ∃ S1, Cx (Blk v0) S w S1 w1 ∧ Has ρ [(0, v0), (1, .int .i64 a1), (3, .int .i64 a3), (4, .func (.func 46) #[] #[]), (18, .int .i64 y287), (20, .int .i64 o315.2), (24, .int .i64 y380)] ∧ Ow api_Point.k 29 S1 base0 w1 v0 o382) ?_ ?_
          · obtain ⟨o386, h389, h385⟩ := bnd_some h385
            refine cw_seq' (fun ρ w1 => ∃ S1, Cx (Blk v0) S w S1 w1 ∧ Has ρ [(0, v0), (1, .int .i64 a1), (2, .int .i64 a2), (3, .int .i64 a3), (4, .func (.func 46) #[] #[]), (18, .int .i64 y287), (20, .int .i64 o315.2), (24, .int .i64 y380), (185, .bool o386)] ∧ Ow api_Point.k 29 S1 base0 w1 v0 o315.1) ?_ ?_
            · refine cw_region (sv (mvv (.int .i64 o315.2) rfl) (sv (mvv (.int .i64 a2) rfl) (sv (rv_lss rfl rfl) (sv (mvv (.bool (decide (o315.2 < a2))) rfl) ?_))))
              rcases bif_some h389 with ⟨b390, h389⟩ | ⟨b390, h389⟩
              · refine W.v (gy rfl rfl rfl b390) (mvv (.int .i64 a2) rfl) (W.v (gy rfl rfl rfl b390) (mvv (.int .i64 y380) rfl) (W.v (gy rfl rfl rfl b390) (rv_lss rfl rfl) (sv (ptk (.bool (decide (a2 < y380))) rfl b390 rfl) (W.e ?_))))
                obtain rfl := Option.some.inj h389
                exact ⟨_, C, ⟨rfl, rfl, rfl, rfl, rfl, rfl, rfl, rfl, rfl, trivial⟩, h376⟩
              · refine W.n (gn rfl rfl rfl b390) (W.n (gn rfl rfl rfl b390) (W.n (gn rfl rfl rfl b390) (sv (pfk (.bool false) rfl b390 rfl) (W.e ?_))))
                obtain rfl := Option.some.inj h389
                exact ⟨_, C, ⟨rfl, rfl, rfl, rfl, rfl, rfl, rfl, rfl, rfl, trivial⟩, h376⟩
            · rintro ρ w392 ⟨S391, C, h393, h376⟩
              refine h393.cw fun ρ => ?_
              clear h393
              rcases bif_some h385 with ⟨b394, h385⟩ | ⟨b394, h385⟩
              · refine cw_t rfl b394 (cw_region (sv (mvv v0 rfl) (sv (mvv (.int .i64 o315.2) rfl) (sv (mvv (.int .i64 a2) rfl) (sv (mvv (.int .i64 y380) rfl) (sv (mvv (.func (.func 46) #[] #[]) rfl) ?_))))))
                obtain ⟨y395, h396, h385⟩ := bnd_some h385
                refine sc (dc_call (vs := [v0, .int .i64 o315.2, .int .i64 a2, .int .i64 y380, .func (.func 46) #[] #[]]) can71 rfl ?_)
                refine (slices_rotateCmpFunc_api_Point__merge_Of_1_w C.sb h376 h396).mono ?_
                rintro _ w397 ⟨S402, rfl, c403, h399⟩
                refine ⟨_, rfl, ?_⟩
                replace C := C.ofc c403 (fun b hb => .inl hb)
                refine W.e ?_
                obtain rfl := Option.some.inj h385
                exact ⟨_, C, ⟨rfl, rfl, rfl, rfl, rfl, rfl, rfl, trivial⟩, h399⟩
              · refine cw_f rfl b394 (cw_skip ?_)
                obtain rfl := Option.some.inj h385
                exact ⟨_, C, ⟨rfl, rfl, rfl, rfl, rfl, rfl, rfl, trivial⟩, h376⟩
          · rintro ρ w405 ⟨S404, C, h408, h407⟩
            refine h408.cw fun ρ => ?_
            clear h408
            obtain ⟨o409, h412, h⟩ := bnd_some h
            refine cw_seq' (fun ρ w1 => ∃ S1, Cx (Blk v0) S w S1 w1 ∧ Has ρ [(0, v0), (3, .int .i64 a3), (4, .func (.func 46) #[] #[]), (18, .int .i64 y287), (24, .int .i64 y380)] ∧ Ow api_Point.k 29 S1 base0 w1 v0 o409) ?_ ?_
            · obtain ⟨o413, h416, h412⟩ := bnd_some h412
              refine cw_seq' (fun ρ w1 => ∃ S1, Cx (Blk v0) S w S1 w1 ∧ Has ρ [(0, v0), (1, .int .i64 a1), (3, .int .i64 a3), (4, .func (.func 46) #[] #[]), (18, .int .i64 y287), (20, .int .i64 o315.2), (24, .int .i64 y380), (199, .bool o413)] ∧ Ow api_Point.k 29 S1 base0 w1 v0 o382) ?_ ?_
              · refine cw_region (sv (mvv (.int .i64 a1) rfl) (sv (mvv (.int .i64 o315.2) rfl) (sv (rv_lss rfl rfl) (sv (mvv (.bool (decide (a1 < o315.2))) rfl) ?_))))
                rcases bif_some h416 with ⟨b417, h416⟩ | ⟨b417, h416⟩
                · refine W.v (gy rfl rfl rfl b417) (mvv (.int .i64 o315.2) rfl) (W.v (gy rfl rfl rfl b417) (mvv (.int .i64 y287) rfl) (W.v (gy rfl rfl rfl b417) (rv_lss rfl rfl) (sv (ptk (.bool (decide (o315.2 < y287))) rfl b417 rfl) (W.e ?_))))
                  obtain rfl := Option.some.inj h416
                  exact ⟨_, C, ⟨rfl, rfl, rfl, rfl, rfl, rfl, rfl, rfl, trivial⟩, h407⟩
                · refine W.n (gn rfl rfl rfl b417) (W.n (gn rfl rfl rfl b417) (W.n (gn rfl rfl rfl b417) (sv (pfk (.bool false) rfl b417 rfl) (W.e ?_))))
                  obtain rfl := Option.some.inj h416
                  exact ⟨_, C, ⟨rfl, rfl, rfl, rfl, rfl, rfl, rfl, rfl, trivial⟩, h407⟩
              · rintro ρ w419 ⟨S418, C, h420, h407⟩
                refine h420.cw fun ρ => ?_
                clear h420
                rcases bif_some h412 with ⟨b421, h412⟩ | ⟨b421, h412⟩
                · refine cw_t rfl b421 (cw_region (sv (mvv v0 rfl) (sv (mvv (.int .i64 a1) rfl) (sv (mvv (.int .i64 o315.2) rfl) (sv (mvv (.int .i64 y287) rfl) (sv (mvv (.func (.func 46) #[] #[]) rfl) ?_))))))
                  obtain ⟨y422, h423, h412⟩ := bnd_some h412
                  refine sc (dc_call (vs := [v0, .int .i64 a1, .int .i64 o315.2, .int .i64 y287, .func (.func 46) #[] #[]]) can65 rfl ?_)
                  refine (ih C.sb h407 h423).mono ?_
                  rintro _ w424 ⟨S429, rfl, c430, h426⟩
                  refine ⟨_, rfl, ?_⟩
                  replace C := C.ofc c430 (fun b hb => .inl hb)
                  refine W.e ?_
                  obtain rfl := Option.some.inj h412
                  exact ⟨_, C, ⟨rfl, rfl, rfl, rfl, rfl, trivial⟩, h426⟩
                · refine cw_f rfl b421 (cw_skip ?_)
                  obtain rfl := Option.some.inj h412
                  exact ⟨_, C, ⟨rfl, rfl, rfl, rfl, rfl, trivial⟩, h407⟩
            · rintro ρ w432 ⟨S431, C, h435, h434⟩
              refine h435.cw fun ρ => ?_
              clear h435
              obtain ⟨o436, h439, h⟩ := bnd_some h
              refine cw_seq' (fun ρ w1 => ∃ S1, Cx (Blk v0) S w S1 w1 ∧ Has ρ [(0, v0), (3, .int .i64 a3), (4, .func (.func 46) #[] #[]), (18, .int .i64 y287), (24, .int .i64 y380), (213, .bool o436)] ∧ Ow api_Point.k 29 S1 base0 w1 v0 o409) ?_ ?_
              · refine cw_region (sv (mvv (.int .i64 y287) rfl) (sv (mvv (.int .i64 y380) rfl) (sv (rv_lss rfl rfl) (sv (mvv (.bool (decide (y287 < y380))) rfl) ?_))))
                rcases bif_some h439 with ⟨b440, h439⟩ | ⟨b440, h439⟩
                · refine W.v (gy rfl rfl rfl b440) (mvv (.int .i64 y380) rfl) (W.v (gy rfl rfl rfl b440) (mvv (.int .i64 a3) rfl) (W.v (gy rfl rfl rfl b440) (rv_lss rfl rfl) (sv (ptk (.bool (decide (y380 < a3))) rfl b440 rfl) (W.e ?_))))
                  obtain rfl := Option.some.inj h439
                  exact ⟨_, C, ⟨rfl, rfl, rfl, rfl, rfl, rfl, trivial⟩, h434⟩
                · refine W.n (gn rfl rfl rfl b440) (W.n (gn rfl rfl rfl b440) (W.n (gn rfl rfl rfl b440) (sv (pfk (.bool false) rfl b440 rfl) (W.e ?_))))
                  obtain rfl := Option.some.inj h439
                  exact ⟨_, C, ⟨rfl, rfl, rfl, rfl, rfl, rfl, trivial⟩, h434⟩
              · rintro ρ w442 ⟨S441, C, h443, h434⟩
                refine h443.cw fun ρ => ?_
                clear h443
                rcases bif_some h with ⟨b444, h⟩ | ⟨b444, h⟩
                · refine cw_t rfl b444 (cw_region (sv (mvv v0 rfl) (sv (mvv (.int .i64 y287) rfl) (sv (mvv (.int .i64 y380) rfl) (sv (mvv (.int .i64 a3) rfl) (sv (mvv (.func (.func 46) #[] #[]) rfl) ?_))))))
                  obtain ⟨y445, h446, h⟩ := bnd_some h
                  refine sc (dc_call (vs := [v0, .int .i64 y287, .int .i64 y380, .int .i64 a3, .func (.func 46) #[] #[]]) can65 rfl ?_)
                  refine (ih C.sb h434 h446).mono ?_
                  rintro _ w447 ⟨S452, rfl, c453, h449⟩
                  refine ⟨_, rfl, ?_⟩
                  replace C := C.ofc c453 (fun b hb => .inl hb)
                  refine W.e ?_
                  obtain rfl := Option.some.inj h
                  exact ⟨_, rfl, _, rfl, C, h449⟩
                · refine cw_f rfl b444 (cw_skip ?_)
                  obtain rfl := Option.some.inj h
                  exact ⟨_, rfl, _, rfl, C, h434⟩

noncomputable def slices_stableCmpFunc_api_Point__merge_Of_1.b2 (a1 : Int) (x15 : List api_Point) (x16 : Int) (x17 : Int) : Option (((List api_Point) × Int × Int) ⊕ ((List api_Point) × Int)) :=
  (bif (decide (x17 ≤ a1)) then ((slices_insertionSortCmpFunc_api_Point__merge_Of_1 x15 x16 x17).bind fun y27 => (pur (IntKind.i64.wrap (x17 + (20 : Int))) fun y38 => some (.inl (y27, x17, y38)))) else some (.inr (x15, x16)))
noncomputable def slices_stableCmpFunc_api_Point__merge_Of_1.b5 (a1 : Int) (x64 : Int) (x86 : List api_Point) (x87 : Int) (x88 : Int) : Option (((List api_Point) × Int × Int) ⊕ ((List api_Point) × Int)) :=
  (bif (decide (x88 ≤ a1)) then (pur (IntKind.i64.wrap (x87 + x64)) fun y98 => ((slices_symMergeCmpFunc_api_Point__merge_Of_1 64 x86 x87 y98 x88).bind fun y100 => (pur (IntKind.i64.wrap ((2 : Int) * x64)) fun y111 => (pur (IntKind.i64.wrap (x88 + y111)) fun y113 => some (.inl (y100, x88, y113)))))) else some (.inr (x86, x87)))
noncomputable def slices_stableCmpFunc_api_Point__merge_Of_1.b3 (a1 : Int) (x63 : List api_Point) (x64 : Int) : Option (((List api_Point) × Int) ⊕ ((List api_Point))) :=
  (bif (decide (x64 < a1)) then (pur (IntKind.i64.wrap ((2 : Int) * x64)) fun y74 => ((iter (fun s : (List api_Point) × Int × Int => slices_stableCmpFunc_api_Point__merge_Of_1.b5 a1 x64 s.1 s.2.1 s.2.2) (x63, (0 : Int), y74)).bind fun o76 => ((pur (IntKind.i64.wrap (o76.2 + x64)) fun y127 => (bif (decide (y127 < a1)) then ((slices_symMergeCmpFunc_api_Point__merge_Of_1 64 o76.1 o76.2 y127 a1).bind fun y132 => some y132) else some o76.1)).bind fun o121 => (pur (IntKind.i64.wrap (x64 * (2 : Int))) fun y146 => some (.inl (o121, y146)))))) else some (.inr x63))
noncomputable def slices_stableCmpFunc_api_Point__merge_Of_1 (a0 : List api_Point) (a1 : Int) : Option (List api_Point) :=
  ((iter (fun s : (List api_Point) × Int × Int => slices_stableCmpFunc_api_Point__merge_Of_1.b2 a1 s.1 s.2.1 s.2.2) (a0, (0 : Int), (20 : Int))).bind fun o5 => ((slices_insertionSortCmpFunc_api_Point__merge_Of_1 o5.1 o5.2 a1).bind fun y48 => (iter (fun s : (List api_Point) × Int => slices_stableCmpFunc_api_Point__merge_Of_1.b3 a1 s.1 s.2) (y48, (20 : Int)))))
set_option maxRecDepth 100000 in
set_option maxHeartbeats 4000000 in
theorem slices_stableCmpFunc_api_Point__merge_Of_1_w {S : Nat → Prop} {w : World} {a0 : List api_Point} {a1 : Int} {v0 : Value} {base0 : Nat} {r : (List api_Point)} (hS : Sb S w) (h0 : Ow api_Point.k 29 S base0 w v0 a0) (h : slices_stableCmpFunc_api_Point__merge_Of_1 a0 a1 = some r) :
    Calls Try.prog 51 (List.toArray [v0, .int .i64 a1, .func (.func 46) #[] #[]]) w fun e w1 => ∃ S1, e = .returned (.tuple (List.toArray [])) ∧ Cx (Blk v0) S w S1 w1 ∧ Ow api_Point.k 29 S1 base0 w1 v0 r := by
  refine enter Try.func51 rfl (by kernel_rfl) rfl ?_
  have C := Cx.refl (F := (Blk v0)) hS
  unfold slices_stableCmpFunc_api_Point__merge_Of_1 at h
  refine cw_seq fun K1 k2 => ?_
  refine cw_region (sv (asv (.int .i64 20) rfl) (W.e (k2 _ _ ?_)))
  refine cw_seq fun K3 k4 => ?_
  refine cw_region (sv (mvv (.int .i64 20) rfl) (sv (asv (.int .i64 0) rfl) (sv (asv (.int .i64 20) rfl) (W.e (k4 _ _ ?_)))))
  obtain ⟨o5, h8, h⟩ := bnd_some h
  refine cw_seq' (fun ρ w1 => ∃ S1, Cx (Blk v0) S w S1 w1 ∧ Has ρ [(0, v0), (1, .int .i64 a1), (2, .func (.func 46) #[] #[]), (6, .int .i64 20), (7, .int .i64 o5.2)] ∧ Ow api_Point.k 29 S1 base0 w1 v0 o5.1) ?_ ?_
  · refine cw_block ?_
    refine cw_iter h8 (fun s ρ w1 => ∃ S1, Cx (Blk v0) S w S1 w1 ∧ Has ρ [(0, v0), (1, .int .i64 a1), (2, .func (.func 46) #[] #[]), (6, .int .i64 20), (7, .int .i64 s.2.1), (8, .int .i64 s.2.2)] ∧ Ow api_Point.k 29 S1 base0 w1 v0 s.1) ⟨_, C, ⟨rfl, rfl, rfl, rfl, rfl, rfl, trivial⟩, h0⟩ ?_
    rintro ⟨x15, x16, x17⟩ q9 ρ w11 ⟨S10, C, h14, h13⟩ h19 h18
    refine h14.cw fun ρ => ?_
    clear h14
    replace h19 : slices_stableCmpFunc_api_Point__merge_Of_1.b2 a1 x15 x16 x17 = some q9 := h19
    unfold slices_stableCmpFunc_api_Point__merge_Of_1.b2 at h19
    refine cw_seq fun K20 k21 => ?_
    refine cw_seq fun K22 k23 => ?_
    refine cw_region (sv (mvv (.int .i64 x17) rfl) (sv (mvv (.int .i64 a1) rfl) (sv (rv_leq rfl rfl) (W.e (k23 _ _ ?_)))))
    rcases bif_some h19 with ⟨b24, h19⟩ | ⟨b24, h19⟩
    · refine cw_t rfl b24 (cw_skip (k21 _ _ (cw_block ?_)))
      refine cw_seq fun K25 k26 => ?_
      refine cw_region (sv (mvv v0 rfl) (sv (mvv (.int .i64 x16) rfl) (sv (mvv (.int .i64 x17) rfl) (sv (mvv (.func (.func 46) #[] #[]) rfl) ?_))))
      obtain ⟨y27, h28, h19⟩ := bnd_some h19
      refine sc (dc_call (vs := [v0, .int .i64 x16, .int .i64 x17, .func (.func 46) #[] #[]]) can64 rfl ?_)
      refine (slices_insertionSortCmpFunc_api_Point__merge_Of_1_w C.sb h13 h28).mono ?_
      rintro _ w29 ⟨S34, rfl, c35, h31⟩
      refine ⟨_, rfl, ?_⟩
      replace C := C.ofc c35 (fun b hb => .inl hb)
      refine W.e (k26 _ _ ?_)
      refine cw_seq fun K36 k37 => ?_
      refine cw_region (sv (mvv (.int .i64 x17) rfl) (sv (asv (.int .i64 x17) rfl) (W.e (k37 _ _ (cw_region (sv (mvv (.int .i64 x17) rfl) (sv (mvv (.int .i64 20) rfl) ?_)))))))
      obtain ⟨y38, h39, h19⟩ := pur_some h19
      refine sv (rv_add rfl rfl h39) (sv (asv (.int .i64 y38) rfl) (W.e ?_))
      obtain rfl := Option.some.inj h19
      exact ⟨_, rfl, ⟨_, C, ⟨rfl, rfl, rfl, rfl, rfl, rfl, trivial⟩, h31⟩⟩
    · refine cw_f rfl b24 (cw_exit ?_)
      obtain rfl := Option.some.inj h19
      have h40 := congrArg some h18
      obtain rfl := Option.some.inj h40
      exact ⟨_, C, ⟨rfl, rfl, rfl, rfl, rfl, trivial⟩, h13⟩
  · rintro ρ w42 ⟨S41, C, h45, h44⟩
    refine h45.cw fun ρ => ?_
    clear h45
    refine cw_seq fun K46 k47 => ?_
    refine cw_region (sv (mvv v0 rfl) (sv (mvv (.int .i64 o5.2) rfl) (sv (mvv (.int .i64 a1) rfl) (sv (mvv (.func (.func 46) #[] #[]) rfl) ?_))))
    obtain ⟨y48, h49, h⟩ := bnd_some h
    refine sc (dc_call (vs := [v0, .int .i64 o5.2, .int .i64 a1, .func (.func 46) #[] #[]]) can64 rfl ?_)
    refine (slices_insertionSortCmpFunc_api_Point__merge_Of_1_w C.sb h44 h49).mono ?_
    rintro _ w50 ⟨S55, rfl, c56, h52⟩
    refine ⟨_, rfl, ?_⟩
    replace C := C.ofc c56 (fun b hb => .inl hb)
    refine W.e (k47 _ _ (cw_block ?_))
    refine cw_iter h (fun s ρ w1 => ∃ S1, Cx (Blk v0) S w S1 w1 ∧ Has ρ [(0, v0), (1, .int .i64 a1), (2, .func (.func 46) #[] #[]), (6, .int .i64 s.2)] ∧ Ow api_Point.k 29 S1 base0 w1 v0 s.1) ⟨_, C, ⟨rfl, rfl, rfl, rfl, trivial⟩, h52⟩ ?_
    rintro ⟨x63, x64⟩ q57 ρ w59 ⟨S58, C, h62, h61⟩ h66 h65
    refine h62.cw fun ρ => ?_
    clear h62
    replace h66 : slices_stableCmpFunc_api_Point__merge_Of_1.b3 a1 x63 x64 = some q57 := h66
    unfold slices_stableCmpFunc_api_Point__merge_Of_1.b3 at h66
    refine cw_seq fun K67 k68 => ?_
    refine cw_seq fun K69 k70 => ?_
    refine cw_region (sv (mvv (.int .i64 x64) rfl) (sv (mvv (.int .i64 a1) rfl) (sv (rv_lss rfl rfl) (W.e (k70 _ _ ?_)))))
    rcases bif_some h66 with ⟨b71, h66⟩ | ⟨b71, h66⟩
    · refine cw_t rfl b71 (cw_skip (k68 _ _ (cw_block ?_)))
      refine cw_seq fun K72 k73 => ?_
      refine cw_region (sv (mvv (.int .i64 x64) rfl) ?_)
      obtain ⟨y74, h75, h66⟩ := pur_some h66
      refine sv (rv_mul rfl rfl h75) (sv (asv (.int .i64 0) rfl) (sv (asv (.int .i64 y74) rfl) (W.e (k73 _ _ ?_))))
      obtain ⟨o76, h79, h66⟩ := bnd_some h66
      refine cw_seq' (fun ρ w1 => ∃ S1, Cx (Blk v0) S w S1 w1 ∧ Has ρ [(0, v0), (1, .int .i64 a1), (2, .func (.func 46) #[] #[]), (6, .int .i64 x64), (7, .int .i64 o76.2)] ∧ Ow api_Point.k 29 S1 base0 w1 v0 o76.1) ?_ ?_
      · refine cw_block ?_
        refine cw_iter h79 (fun s ρ w1 => ∃ S1, Cx (Blk v0) S w S1 w1 ∧ Has ρ [(0, v0), (1, .int .i64 a1), (2, .func (.func 46) #[] #[]), (6, .int .i64 x64), (7, .int .i64 s.2.1), (8, .int .i64 s.2.2)] ∧ Ow api_Point.k 29 S1 base0 w1 v0 s.1) ⟨_, C, ⟨rfl, rfl, rfl, rfl, rfl, rfl, trivial⟩, h61⟩ ?_
        rintro ⟨x86, x87, x88⟩ q80 ρ w82 ⟨S81, C, h85, h84⟩ h90 h89
        refine h85.cw fun ρ => ?_
        clear h85
        replace h90 : slices_stableCmpFunc_api_Point__merge_Of_1.b5 a1 x64 x86 x87 x88 = some q80 := h90
        unfold slices_stableCmpFunc_api_Point__merge_Of_1.b5 at h90
        refine cw_seq fun K91 k92 => ?_
        refine cw_seq fun K93 k94 => ?_
        refine cw_region (sv (mvv (.int .i64 x88) rfl) (sv (mvv (.int .i64 a1) rfl) (sv (rv_leq rfl rfl) (W.e (k94 _ _ ?_)))))
        rcases bif_some h90 with ⟨b95, h90⟩ | ⟨b95, h90⟩
        · refine cw_t rfl b95 (cw_skip (k92 _ _ (cw_block ?_)))
          refine cw_seq fun K96 k97 => ?_
          refine cw_region (sv (mvv v0 rfl) (sv (mvv (.int .i64 x87) rfl) (sv (mvv (.int .i64 x87) rfl) (sv (mvv (.int .i64 x64) rfl) ?_))))
          obtain ⟨y98, h99, h90⟩ := pur_some h90
          refine sv (rv_add rfl rfl h99) (sv (mvv (.int .i64 x88) rfl) (sv (mvv (.func (.func 46) #[] #[]) rfl) ?_))
          obtain ⟨y100, h101, h90⟩ := bnd_some h90
          refine sc (dc_call (vs := [v0, .int .i64 x87, .int .i64 y98, .int .i64 x88, .func (.func 46) #[] #[]]) can65 rfl ?_)
          refine (slices_symMergeCmpFunc_api_Point__merge_Of_1_w 64 C.sb h84 h101).mono ?_
          rintro _ w102 ⟨S107, rfl, c108, h104⟩
          refine ⟨_, rfl, ?_⟩
          replace C := C.ofc c108 (fun b hb => .inl hb)
          refine W.e (k97 _ _ ?_)
          refine cw_seq fun K109 k110 => ?_
          refine cw_region (sv (mvv (.int .i64 x88) rfl) (sv (asv (.int .i64 x88) rfl) (W.e (k110 _ _ (cw_region (sv (mvv (.int .i64 x88) rfl) (sv (mvv (.int .i64 x64) rfl) ?_)))))))
          obtain ⟨y111, h112, h90⟩ := pur_some h90
          refine sv (rv_mul rfl rfl h112) ?_
          obtain ⟨y113, h114, h90⟩ := pur_some h90
          refine sv (rv_add rfl rfl h114) (sv (asv (.int .i64 y113) rfl) (W.e ?_))
          obtain rfl := Option.some.inj h90
          exact ⟨_, rfl, ⟨_, C, ⟨rfl, rfl, rfl, rfl, rfl, rfl, trivial⟩, h104⟩⟩
        · refine cw_f rfl b95 (cw_exit ?_)
          obtain rfl := Option.some.inj h90
          have h115 := congrArg some h89
          obtain rfl := Option.some.inj h115
          exact ⟨_, C, ⟨rfl, rfl, rfl, rfl, rfl, trivial⟩, h84⟩
      · rintro ρ w117 ⟨S116, C, h120, h119⟩
        refine h120.cw fun ρ => ?_
        clear h120
        obtain ⟨o121, h124, h66⟩ := bnd_some h66
        refine cw_seq' (fun ρ w1 => ∃ S1, Cx (Blk v0) S w S1 w1 ∧ Has ρ [(0, v0), (1, .int .i64 a1), (2, .func (.func 46) #[] #[]), (6, .int .i64 x64)] ∧ Ow api_Point.k 29 S1 base0 w1 v0 o121) ?_ ?_
        · refine cw_seq fun K125 k126 => ?_
          refine cw_region (sv (mvv (.int .i64 o76.2) rfl) (sv (mvv (.int .i64 x64) rfl) ?_))
          obtain ⟨y127, h128, h124⟩ := pur_some h124
          refine sv (rv_add rfl rfl h128) (sv (asv (.int .i64 y127) rfl) (W.e (k126 _ _ ?_)))
          refine cw_seq fun K129 k130 => ?_
          refine cw_region (sv (mvv (.int .i64 y127) rfl) (sv (mvv (.int .i64 a1) rfl) (sv (rv_lss rfl rfl) (W.e (k130 _ _ ?_)))))
          rcases bif_some h124 with ⟨b131, h124⟩ | ⟨b131, h124⟩
          · refine cw_t rfl b131 (cw_region (sv (mvv v0 rfl) (sv (mvv (.int .i64 o76.2) rfl) (sv (mvv (.int .i64 y127) rfl) (sv (mvv (.int .i64 a1) rfl) (sv (mvv (.func (.func 46) #[] #[]) rfl) ?_))))))
            obtain ⟨y132, h133, h124⟩ := bnd_some h124
            refine sc (dc_call (vs := [v0, .int .i64 o76.2, .int .i64 y127, .int .i64 a1, .func (.func 46) #[] #[]]) can65 rfl ?_)
            refine (slices_symMergeCmpFunc_api_Point__merge_Of_1_w 64 C.sb h119 h133).mono ?_
            rintro _ w134 ⟨S139, rfl, c140, h136⟩
            refine ⟨_, rfl, ?_⟩
            replace C := C.ofc c140 (fun b hb => .inl hb)
            refine W.e ?_
            obtain rfl := Option.some.inj h124
            exact ⟨_, C, ⟨rfl, rfl, rfl, rfl, trivial⟩, h136⟩
          · refine cw_f rfl b131 (cw_skip ?_)
            obtain rfl := Option.some.inj h124
            exact ⟨_, C, ⟨rfl, rfl, rfl, rfl, trivial⟩, h119⟩
        · rintro ρ w142 ⟨S141, C, h145, h144⟩
          refine h145.cw fun ρ => ?_
          clear h145
          refine cw_region (sv (mvv (.int .i64 x64) rfl) ?_)
          obtain ⟨y146, h147, h66⟩ := pur_some h66
          refine sv (rv_mul rfl rfl h147) (sv (asv (.int .i64 y146) rfl) (W.e ?_))
          obtain rfl := Option.some.inj h66
          exact ⟨_, rfl, ⟨_, C, ⟨rfl, rfl, rfl, rfl, trivial⟩, h144⟩⟩
    · refine cw_f rfl b71 (cw_exit ?_)
      obtain rfl := Option.some.inj h66
      have h148 := congrArg some h65
      obtain rfl := Option.some.inj h148
      exact ⟨_, rfl, _, rfl, C, h61⟩

noncomputable def slices_SortStableFunc_api_Point_api_Point__merge_Of_1 (a0 : List api_Point) : Option (List api_Point) :=
  ((slices_stableCmpFunc_api_Point__merge_Of_1 a0 (a0.length : Int)).bind fun y1 => some y1)
set_option maxRecDepth 100000 in
set_option maxHeartbeats 4000000 in
theorem slices_SortStableFunc_api_Point_api_Point__merge_Of_1_w {S : Nat → Prop} {w : World} {a0 : List api_Point} {v0 : Value} {base0 : Nat} {r : (List api_Point)} (hS : Sb S w) (h0 : Ow api_Point.k 29 S base0 w v0 a0) (h : slices_SortStableFunc_api_Point_api_Point__merge_Of_1 a0 = some r) :
    Calls Try.prog 45 (List.toArray [v0, .func (.func 46) #[] #[]]) w fun e w1 => ∃ S1, e = .returned (.tuple (List.toArray [])) ∧ Cx (Blk v0) S w S1 w1 ∧ Ow api_Point.k 29 S1 base0 w1 v0 r := by
  refine enter Try.func45 rfl (by kernel_rfl) rfl ?_
  have C := Cx.refl (F := (Blk v0)) hS
  unfold slices_SortStableFunc_api_Point_api_Point__merge_Of_1 at h
  refine cw_region (sv (mvv v0 rfl) (sv (mvv v0 rfl) (sv (rv_lenS el33 h0.sealed rfl) (sv (mvv (.func (.func 46) #[] #[]) rfl) ?_))))
  obtain ⟨y1, h2, h⟩ := bnd_some h
  refine sc (dc_call (vs := [v0, .int .i64 (a0.length : Int), .func (.func 46) #[] #[]]) can51 rfl ?_)
  refine (slices_stableCmpFunc_api_Point__merge_Of_1_w C.sb h0 h2).mono ?_
  rintro _ w3 ⟨S8, rfl, c9, h5⟩
  refine ⟨_, rfl, ?_⟩
  replace C := C.ofc c9 (fun b hb => .inl hb)
  refine W.e ?_
  obtain rfl := Option.some.inj h
  exact ⟨_, rfl, _, rfl, C, h5⟩

noncomputable def merge_Of.b2 (y14 : List api_Point) (x38 : List api_Point) (x39 : Int) : Option (((List api_Point) × Int) ⊕ ((List api_Point))) :=
  (bif (decide (x39 < (y14.length : Int))) then (((at_ y14 x39).bind fun y53 => (pur y53 fun y65 => ((pur (IntKind.i64.wrap (x39 + (1 : Int))) fun y78 => (bif (y78 == (y14.length : Int)) then some true else (pur (IntKind.i64.wrap (x39 + (1 : Int))) fun y81 => ((at_ y14 y81).bind fun y83 => some (y83.T != y65.T))))).bind fun o71 => (bif o71 then ((app_ 16 x38 ([y65] : List api_Point)).bind fun y108 => some y108) else some x38)))).bind fun o47 => (pur (IntKind.i64.wrap (x39 + (1 : Int))) fun y123 => some (.inl (o47, y123)))) else some (.inr x38))
noncomputable def merge_Of (a0 : List api_Point) : Option (List api_Point) :=
  ((slices_Clone_api_Point_api_Point a0).bind fun y5 => ((slices_SortStableFunc_api_Point_api_Point__merge_Of_1 y5).bind fun y14 => ((iter (fun s : (List api_Point) × Int => merge_Of.b2 y14 s.1 s.2) (([] : List api_Point), (0 : Int))).bind fun o25 => some o25)))
set_option maxRecDepth 100000 in
set_option maxHeartbeats 4000000 in
theorem merge_Of_w {S : Nat → Prop} {w : World} {a0 : List api_Point} {v0 : Value} {r : (List api_Point)} (hS : Sb S w) (h0 : Sl (kSl api_Point.k) S w v0 a0) (h : merge_Of a0 = some r) :
    Calls Try.prog 36 (List.toArray [v0]) w fun e w1 => ∃ S1 u0, e = .returned (u0) ∧ Cx No S w S1 w1 ∧ Ow api_Point.k 29 S1 w.heap.size w1 u0 r := by
  refine enter Try.func36 rfl (by kernel_rfl) rfl ?_
  have C := Cx.refl (F := No) hS
  unfold merge_Of at h
  refine cw_seq fun K1 k2 => ?_
  refine cw_region (sv (asv (.slice none 0 0) rfl) (W.e (k2 _ _ ?_)))
  refine cw_seq fun K3 k4 => ?_
  refine cw_region (sv (mvv v0 rfl) ?_)
  obtain ⟨y5, h6, h⟩ := bnd_some h
  refine sc (dc_call (vs := [v0]) can38 rfl ?_)
  refine (slices_Clone_api_Point_api_Point_w C.sb h0 h6).mono ?_
  rintro _ w7 ⟨S8, v10, rfl, c9, h11⟩
  refine ⟨_, rfl, ?_⟩
  replace h11 := h11.base C.up.size
  replace C := C.trans c9
  refine sv (asv v10 rfl) (W.e (k4 _ _ ?_))
  refine cw_seq fun K12 k13 => ?_
  refine cw_region (sv (mvv v10 rfl) ?_)
  obtain ⟨y14, h15, h⟩ := bnd_some h
  refine sc (dc_call (vs := [v10, .func (.func 46) #[] #[]]) can45 rfl ?_)
  refine (slices_SortStableFunc_api_Point_api_Point__merge_Of_1_w C.sb h11 h15).mono ?_
  rintro _ w16 ⟨S21, rfl, c22, h18⟩
  refine ⟨_, rfl, ?_⟩
  replace C := C.ofc c22 (fun b hb => .inr (h11.lt b hb).1)
  refine W.e (k13 _ _ ?_)
  refine cw_seq fun K23 k24 => ?_
  refine cw_region (sv (asv (.slice none 0 0) rfl) (W.e (k24 _ _ ?_)))
  obtain ⟨o25, h28, h⟩ := bnd_some h
  refine cw_seq' (fun ρ w1 => ∃ S1 v128, Cx No S w S1 w1 ∧ Has ρ [(4, v128)] ∧ Ow api_Point.k 29 S1 w.heap.size w1 v128 o25) ?_ ?_
  · refine cw_seq fun K29 k30 => ?_
    refine cw_region (sv (mvv v10 rfl) (sv (rv_lenS el33 h18.sealed rfl) (sv (mvv (.int .i64 0) rfl) (W.e (k30 _ _ (cw_block ?_))))))
    refine cw_iter h28 (fun s ρ w1 => ∃ S1 v34, Cx No S w S1 w1 ∧ Has ρ [(3, v10), (4, v34), (11, v10), (12, .int .i64 (y14.length : Int)), (13, .int .i64 s.2)] ∧ Ow api_Point.k 29 S1 w.heap.size w1 v10 y14 ∧ Ow api_Point.k 29 S1 w.heap.size w1 v34 s.1 ∧ Ap v10 v34) ⟨_, _, C, ⟨rfl, rfl, rfl, rfl, rfl, trivial⟩, h18, Ow.nil _ _ _ _ _, (ap_symm ap_nil)⟩ ?_
    rintro ⟨x38, x39⟩ q31 ρ w33 ⟨S32, v34, C, h37, h18, h35, p36⟩ h41 h40
    refine h37.cw fun ρ => ?_
    clear h37
    replace h41 : merge_Of.b2 y14 x38 x39 = some q31 := h41
    unfold merge_Of.b2 at h41
    refine cw_seq fun K42 k43 => ?_
    refine cw_region (sv (rv_lss rfl rfl) (W.e (k43 _ _ ?_)))
    refine cw_seq fun K44 k45 => ?_
    rcases bif_some h41 with ⟨b46, h41⟩ | ⟨b46, h41⟩
    · refine cw_t rfl b46 (cw_skip (k45 _ _ ?_))
      obtain ⟨o47, h50, h41⟩ := bnd_some h41
      refine cw_seq' (fun ρ w1 => ∃ S1 v119, Cx No S w S1 w1 ∧ Has ρ [(3, v10), (4, v119), (11, v10), (12, .int .i64 (y14.length : Int)), (13, .int .i64 x39)] ∧ Ow api_Point.k 29 S1 w.heap.size w1 v10 y14 ∧ Ow api_Point.k 29 S1 w.heap.size w1 v119 o47 ∧ Ap v10 v119) ?_ ?_
      · refine cw_block ?_
        refine cw_seq fun K51 k52 => ?_
        refine cw_region (sv (mvv (.int .i64 x39) rfl) ?_)
        obtain ⟨y53, h54, h50⟩ := bnd_some h50
        refine sv (rv_index el33 h18.sealed rfl rfl h54) ?_
        obtain ⟨v55, h56, h57⟩ := rw_loadO (P := Try.prog) el33 h18 h54
        obtain rfl := api_Point.o.1 h56
        refine sr (h57 _ (Sm.refl _ _) rfl) ?_
        refine sc (dc_allocO (x0 := (api_Point.mk (0 : Int) (0 : Int))) (base := w.heap.size) el33 zr29 (fun _ => api_Point.r.2 rfl) C.up.size C.sb fun b58 w59 h60 h61 u62 => ?_)
        have p63 := ap_fresh h61 (fun b hb => (h18.lt b hb).2)
        have p64 := ap_fresh h61 (fun b hb => (h35.lt b hb).2)
        replace h18 := h18.nw u62
        replace h35 := h35.nw u62
        replace C := C.new u62
        refine sv (asv (.int .i64 x39) rfl) ?_
        obtain ⟨y65, h66, h50⟩ := pur_some h50
        have h70 := h60
        refine sc (dc_storeO el33 h70 (show at_ [(api_Point.mk (0 : Int) (0 : Int))] (0 : Int) = some (api_Point.mk (0 : Int) (0 : Int)) from rfl) rfl rfl (((api_Point.o (x := y53)).2 rfl)) fun w67 h68 u69 => ?_)
        replace h68 : Ow api_Point.k 29 S32 w.heap.size w67 (.slice (some ⟨b58, 0, none⟩) 1 1) [y53] := h68
        rw [h66] at h68
        replace h18 := h18.wr u69 h70.not (ap_symm p63)
        replace h35 := h35.wr u69 h70.not (ap_symm p64)
        replace C := C.ow h70 u69
        refine W.e (k52 _ _ ?_)
        obtain ⟨o71, h74, h50⟩ := bnd_some h50
        refine cw_seq' (fun ρ w1 => ∃ S1, Cx No S w S1 w1 ∧ Has ρ [(3, v10), (4, v34), (6, .pointer (some ⟨b58, 0, none⟩)), (11, v10), (12, .int .i64 (y14.length : Int)), (13, .int .i64 x39), (33, .bool o71)] ∧ Ow api_Point.k 29 S1 w.heap.size w1 v10 y14 ∧ Ow api_Point.k 29 S1 w.heap.size w1 v34 x38 ∧ Ow api_Point.k 29 S1 w.heap.size w1 (.slice (some ⟨b58, 0, none⟩) 1 1) ([y65]) ∧ Ap v10 v34 ∧ Ap v10 (.slice (some ⟨b58, 0, none⟩) 1 1) ∧ Ap v34 (.slice (some ⟨b58, 0, none⟩) 1 1)) ?_ ?_
        · refine cw_drawU (.one 0 true (.one 1 true (.one 2 true (.one 3 true (.one 4 true (.one 5 true (.one 6 true (.one 7 true (.one 8 true (.one 9 true (.one 10 true (.one 11 true (.one 12 true (.one 13 true (.one 14 true (.one 15 true .done)))))))))))))))) [(11, [9]), (13, [9])] [] (fun c => bif Nat.beq c 9 then (fun _ => True) else No) fol (by kernel_rfl) fun w75 u76 => ?_
          replace h18 := h18.nw u76
          replace h35 := h35.nw u76
          replace h68 := h68.nw u76
          replace C := C.new u76
          have m77 := Sm.refl (fun _ => True) w75
          refine mtv rfl rfl (mvv (.int .i64 x39) rfl) ?_
          obtain ⟨y78, h79, h74⟩ := pur_some h74
          refine mtv rfl rfl (rv_add rfl rfl h79) (mtv rfl rfl (mvv v10 rfl) (mtv rfl rfl (rv_lenS el33 h18.sealed rfl) (mtv rfl rfl (rv_eql rfl rfl) (mtv rfl rfl (mvv (.bool (y78 == (y14.length : Int))) rfl) ?_))))
          rcases bif_some h74 with ⟨b80, h74⟩ | ⟨b80, h74⟩
          · refine MT.n rfl rfl (gn rfl rfl rfl b80) trivial (MT.n rfl rfl (gn rfl rfl rfl b80) trivial (MT.n rfl rfl (gn rfl rfl rfl b80) trivial (MT.n rfl rfl (gn rfl rfl rfl b80) trivial (MT.n rfl rfl (gn rfl rfl rfl b80) trivial (MT.n rfl rfl (gn rfl rfl rfl b80) ⟨m77, trivial⟩ (MT.n rfl rfl (gn rfl rfl rfl b80) trivial (MT.n rfl rfl (gn rfl rfl rfl b80) ⟨m77, trivial⟩ (MT.n rfl rfl (gn rfl rfl rfl b80) trivial (mtv rfl rfl (ptk (.bool true) rfl b80 rfl) (MT.e ?_))))))))))
            obtain rfl := Option.some.inj h74
            exact ⟨_, C, ⟨rfl, rfl, rfl, rfl, rfl, rfl, rfl, trivial⟩, h18, h35, h68, p36, (ap_symm p63), (ap_symm p64)⟩
          · refine MT.vv rfl rfl (gy rfl rfl rfl b80) (mvv v10 rfl) (MT.vv rfl rfl (gy rfl rfl rfl b80) (mvv (.int .i64 x39) rfl) ?_)
            obtain ⟨y81, h82, h74⟩ := pur_some h74
            refine MT.vv rfl rfl (gy rfl rfl rfl b80) (rv_add rfl rfl h82) ?_
            obtain ⟨y83, h84, h74⟩ := bnd_some h74
            refine MT.vv rfl rfl (gy rfl rfl rfl b80) (rv_index el33 h18.sealed rfl rfl h84) (MT.vv rfl rfl (gy rfl rfl rfl b80) (rv_fieldAddr st29 rfl rfl) ?_)
            obtain ⟨cs85, h86, h87⟩ := Ow.cellsO h18 h84
            obtain rfl := api_Point.r.1 h86
            refine MT.r rfl rfl (gy rfl rfl rfl b80) ⟨m77, trivial⟩ (fun w' hq => rw_el1 (off := 0) ag3 (h87 w' (hq.1.mono fun _ _ => trivial)) rfl rfl) (MT.vv rfl rfl (gy rfl rfl rfl b80) (rv_fieldAddr st29 rfl rfl) ?_)
            obtain ⟨cs88, h89, h90⟩ := Ow.cellsO h68 (show at_ [y65] (0 : Int) = some y65 from rfl)
            obtain rfl := api_Point.r.1 h89
            refine MT.r rfl rfl (gy rfl rfl rfl b80) ⟨m77, trivial⟩ (fun w' hq => rw_el1 (off := 0) ag3 (h90 w' (hq.1.mono fun _ _ => trivial)) rfl rfl) (MT.vv rfl rfl (gy rfl rfl rfl b80) (rv_neq rfl rfl) (mtv rfl rfl (pfk (.bool (y83.T != y65.T)) rfl b80 rfl) (MT.e ?_)))
            obtain rfl := Option.some.inj h74
            exact ⟨_, C, ⟨rfl, rfl, rfl, rfl, rfl, rfl, rfl, trivial⟩, h18, h35, h68, p36, (ap_symm p63), (ap_symm p64)⟩
        · rintro ρ w92 ⟨S91, C, h96, h18, h35, h68, p93, p94, p95⟩
          refine h96.cw fun ρ => ?_
          clear h96
          rcases bif_some h50 with ⟨b97, h50⟩ | ⟨b97, h50⟩
          · refine cw_t rfl b97 (cw_region (sv (mvv v34 rfl) ?_))
            obtain ⟨v98, h99, h100⟩ := rw_loadO (P := Try.prog) el33 h68 (show at_ [y65] (0 : Int) = some y65 from rfl)
            obtain rfl := api_Point.o.1 h99
            refine sr (h100 _ (Sm.refl _ _) rfl) ?_
            refine sc (dc_lit (vs := [.agg (List.toArray [.int .i64 y65.T, .int .i64 y65.V])]) (xs := ([y65] : List api_Point)) (base := w.heap.size) el33 rfl rfl (.cons ((api_Point.o (x := y65)).2 rfl) (.nil)) (Nat.le_of_ble_eq_true rfl) C.up.size C.sb fun v101 w102 h103 h104 u105 => ?_)
            have p106 := ap_fresh h104 (fun b hb => (h35.lt b hb).2)
            have p107 := ap_fresh h104 (fun b hb => (h18.lt b hb).2)
            replace h35 := h35.nw u105
            replace h18 := h18.nw u105
            replace C := C.new u105
            obtain ⟨y108, h109, h50⟩ := bnd_some h50
            have h115 := h35
            refine sc (dc_append el33 (by decide) h115 h103.src rfl rfl h109 C.up.size C.sb fun v110 w111 h112 u113 h114 => ?_)
            have p116 := ap_grow (ap_symm p93) h114 (fun b hb => (h18.lt b hb).2)
            replace h18 := h18.wr u113 h115.not p93
            replace C := C.ow h115 u113
            refine sv (asv v110 rfl) (W.e ?_)
            obtain rfl := Option.some.inj h50
            exact ⟨_, _, C, ⟨rfl, rfl, rfl, rfl, rfl, trivial⟩, h18, h112, (ap_symm p116)⟩
          · refine cw_f rfl b97 (cw_skip ?_)
            obtain rfl := Option.some.inj h50
            exact ⟨_, _, C, ⟨rfl, rfl, rfl, rfl, rfl, trivial⟩, h18, h35, p93⟩
      · rintro ρ w118 ⟨S117, v119, C, h122, h18, h120, p121⟩
        refine h122.cw fun ρ => ?_
        clear h122
        refine cw_region ?_
        obtain ⟨y123, h124, h41⟩ := pur_some h41
        refine sv (rv_add rfl rfl h124) (sv (mvv (.int .i64 y123) rfl) (W.e ?_))
        obtain rfl := Option.some.inj h41
        exact ⟨_, rfl, ⟨_, _, C, ⟨rfl, rfl, rfl, rfl, rfl, trivial⟩, h18, h120, p121⟩⟩
    · refine cw_f rfl b46 (cw_exit ?_)
      obtain rfl := Option.some.inj h41
      have h125 := congrArg some h40
      obtain rfl := Option.some.inj h125
      exact ⟨_, _, C, ⟨rfl, trivial⟩, h35⟩
  · rintro ρ w127 ⟨S126, v128, C, h130, h129⟩
    refine h130.cw fun ρ => ?_
    clear h130
    refine cw_seq fun K131 k132 => ?_
    refine cw_region (sv (mvv v128 rfl) (sv (asv v128 rfl) (W.e (k132 _ _ (cw_ret ?_)))))
    obtain rfl := Option.some.inj h
    exact ⟨_, rfl, _, _, rfl, C, h129⟩

noncomputable def head_Head_put (a0 : head_Head) (a1 : Int) (a2 : List api_Point) : Option head_Head :=
  (pur (IntKind.i64.wrap ((a2.length : Int) - (((mget a1 a0.series).getD []).length : Int))) fun y14 => (pur (IntKind.i64.wrap (a0.many + y14)) fun y16 => (pur ({ a0 with many := y16 } : head_Head) fun y18 => (bif ((a2.length : Int) == (0 : Int)) then (pur ({ y18 with series := (mrem a1 y18.series) } : head_Head) fun y36 => some y36) else (pur ({ y18 with series := (mput a1 a2 y18.series) } : head_Head) fun y54 => some y54)))))
set_option maxRecDepth 100000 in
set_option maxHeartbeats 4000000 in
theorem head_Head_put_w {S : Nat → Prop} {w : World} {a0 : head_Head} {a1 : Int} {a2 : List api_Point} {v0 v2 : Value} {cs0 : List Value} {fp0 : List Nat} {base2 : Nat} {r : head_Head} (hS : Sb S w) (h0 : Ob 67 (head_Head.fs a0) S w v0 cs0 fp0) (h2 : Ow api_Point.k 29 S base2 w v2 a2) (hap2 : ∀ b, Blk v2 b → ¬ b ∈ fp0) (h : head_Head_put a0 a1 a2 = some r) :
    Calls Try.prog 37 (List.toArray [v0, .int .i64 a1, v2]) w fun e w1 => ∃ S1 us_0 up_0, e = .returned (.tuple (List.toArray [])) ∧ Cx (fun b => b ∈ fp0) S w S1 w1 ∧ Ob 67 (head_Head.fs r) S1 w1 v0 us_0 up_0 ∧ (∀ b, b ∈ up_0 → b ∈ fp0 ∨ Blk v2 b ∨ w.heap.size ≤ b) := by
  refine enter Try.func37 rfl (by kernel_rfl) rfl ?_
  have C := Cx.refl (F := (fun b => b ∈ fp0)) hS
  unfold head_Head_put at h
  have hs0 : ∀ b, b ∈ fp0 → b ∈ fp0 ∨ w.heap.size ≤ b := fun b hb => .inl hb
  have hl0 : ∀ b ∈ fp0, b < w.heap.size := fun b hb => (h0.lt b hb).1
  refine cw_seq fun K1 k2 => ?_
  obtain ⟨c5, h6⟩ := h0.at (i := 1) rfl
  refine cw_drawU (.one 0 true (.one 1 true (.one 2 true (.one 3 true (.one 4 true (.one 5 true (.one 6 true (.one 7 true (.one 8 true (.one 9 true (.one 10 true (.one 11 true (.one 12 true (.one 13 true (.one 14 true (.one 15 true (.one 16 true (.one 17 false .done)))))))))))))))))) [(3, [10]), (9, [10]), (11, [101])] [(17, [])] (fun c => bif Nat.beq c 10 then (One (pb v0)) else bif Nat.beq c 101 then (One (mb c5)) else No) fol (by kernel_rfl) fun w3 u4 => ?_
  replace h0 := h0.nw u4
  replace h2 := h2.nw u4
  replace C := C.new u4
  have h0d := h0
  have h2d := h2
  have m7 := Sm.refl (One (pb v0)) w3
  have m8 := Sm.refl (One (mb c5)) w3
  refine mtv rfl rfl (mvv v0 rfl) (mtv rfl rfl (rv_nilcheck rfl h0.ptr) (mtv rfl rfl (rv_fieldAddr (b := pb v0) (o := 0) st67 rfl h0.ptr) (mtr rfl rfl ⟨m7, trivial⟩ (fun w' hq => rw_ofieldU (i := 2) (c := .int .i64 a0.many) h0 hq.1 ag3 (h0.sc (i := 2) rfl) rfl) (mtv rfl rfl (mvv v2 rfl) (mtv rfl rfl (rv_lenS el33 h2.sealed rfl) (mtv rfl rfl (mvv v0 rfl) (mtv rfl rfl (rv_nilcheck rfl h0.ptr) (mtv rfl rfl (rv_fieldAddr (b := pb v0) (o := 0) st67 rfl h0.ptr) (mtr rfl rfl ⟨m7, trivial⟩ (fun w' hq => rw_ofieldU (i := 1) (c := c5) h0 hq.1 ag65 h6 rfl) (mtv rfl rfl (mvv (.int .i64 a1) rfl) ?_))))))))))
  obtain ⟨v9, h10, h11, h12, h13⟩ := Ob.lendU (P := Try.prog) (tm := 65) (te := 33) h0 (i := 1) rfl h6 Try.underlying65 zv33 a1
  refine mtr rfl rfl ⟨m8, trivial⟩ (fun w' hq => h12 hq.1 rfl rfl) (mtv rfl rfl (rv_lenS el33 h10.sealed rfl) ?_)
  obtain ⟨y14, h15, h⟩ := pur_some h
  refine mtv rfl rfl (rv_sub rfl rfl h15) ?_
  obtain ⟨y16, h17, h⟩ := pur_some h
  refine mtv rfl rfl (rv_add rfl rfl h17) (mtv rfl rfl (rv_nilcheck rfl h0.ptr) (mtv rfl rfl (rv_fieldAddr (b := pb v0) (o := 0) st67 rfl h0.ptr) ?_))
  obtain ⟨y18, h19, h⟩ := pur_some h
  have h24 : ∀ b, b ∈ fp0 → ¬ S b := fun b hb => (h0.lt b hb).2
  refine mtc rfl rfl (dc_ofield (i := 2) (k := (kI .i64)) (h1 := rfl) (a' := y16) h0 rfl ag3 rfl rfl (rep_sc.2 rfl) fun w20 h21 u22 => ?_)
  replace h21 : Ob 67 (head_Head.fs ({ a0 with many := y16 } : head_Head)) S w20 v0 (cs0.set 2 (.int .i64 y16)) fp0 := h21
  rw [h19] at h21
  obtain ⟨cs25, h26⟩ : ∃ cs, cs = cs0.set 2 (.int .i64 y16) := ⟨_, rfl⟩
  rw [← h26] at h21
  have c23 := Cx.ofUp C.sb u22
  have h27 : cs25[1]? = some c5 := by rw [h26, List.getElem?_set_ne (by decide)]; exact h6
  replace h2 := h2.cf c23 h24 hap2
  replace C := C.ofc c23 hs0
  have z28 := (u22).size
  refine ⟨trivial, ?_⟩
  refine MT.e (k2 _ _ ?_)
  refine cw_seq fun K29 k30 => ?_
  refine cw_seq fun K31 k32 => ?_
  refine cw_region (sv (mvv v2 rfl) (sv (rv_lenS el33 h2.sealed rfl) (sv (rv_eql rfl rfl) (W.e (k32 _ _ ?_)))))
  rcases bif_some h with ⟨b33, h⟩ | ⟨b33, h⟩
  · refine cw_t rfl b33 ?_
    refine cw_seq fun K34 k35 => ?_
    refine cw_region (sv (mvv v0 rfl) (sv (rv_nilcheck rfl h21.ptr) (sv (rv_fieldAddr (b := pb v0) (o := 0) st67 rfl h21.ptr) (sr (rw_ofield (i := 1) (c := c5) h21 ag65 h27 rfl) (sv (mvv (.int .i64 a1) rfl) ?_)))))
    obtain ⟨y36, h37, h⟩ := pur_some h
    have h44 : ∀ b, b ∈ fp0 → ¬ S b := fun b hb => (h21.lt b hb).2
    refine sc (dc_omdelO (a := a1) h21 (i := 1) rfl h27 Try.underlying65 rfl rfl fun w38 fp42 h39 h43 u40 => ?_)
    replace h39 : Ob 67 (head_Head.fs ({ y18 with series := (mrem a1 y18.series) } : head_Head)) S w38 v0 cs25 fp42 := h39
    rw [h37] at h39
    have c41 := Cx.ofUp C.sb u40
    have h45 : ∀ b, b ∈ fp42 → b ∈ fp0 ∨ w20.heap.size ≤ b := fun b hb => .inl (h43 b hb)
    have h46 : ∀ b, b ∈ fp42 → b ∈ fp0 ∨ w.heap.size ≤ b := fun b hb => (h45 b hb).elim (hs0 b) (fun hl => .inr (Nat.le_trans C.up.size hl))
    replace C := C.ofc c41 hs0
    refine W.e (k35 _ _ (cw_ret ?_))
    obtain rfl := Option.some.inj h
    exact ⟨_, rfl, _, _, _, rfl, C, h39, (fun b hb => (h46 b hb).imp id .inr)⟩
  · refine cw_f rfl b33 (cw_skip (k30 _ _ (cw_region (sv (mvv v0 rfl) (sv (rv_nilcheck rfl h21.ptr) (sv (rv_fieldAddr (b := pb v0) (o := 0) st67 rfl h21.ptr) (sr (rw_ofield (i := 1) (c := c5) h21 ag65 h27 rfl) (sv (mvv (.int .i64 a1) rfl) (sv (mvv v2 rfl) ?_)))))))))
    obtain ⟨v47, h48, h49, h50, h51⟩ := Ob.lendU (P := Try.prog) (tm := 65) (te := 33) h21 (i := 1) rfl h27 Try.underlying65 zv33 a1
    have h52 : ∀ b, Blk v2 b → Blk v47 b ∨ b ∉ fp0 := fun b hq => .inr (hap2 b hq)
    obtain ⟨y54, h55, h⟩ := pur_some h
    refine sc (h51 h21 (Sm.refl _ _) (Up.refl _ _) (h2.base (Nat.zero_le _)) h52 rfl rfl rfl fun w56 fp60 h57 h61 u58 => ?_)
    replace h57 : Ob 67 (head_Head.fs ({ y18 with series := (mput a1 a2 y18.series) } : head_Head)) S w56 v0 cs25 fp60 := h57
    rw [h55] at h57
    have h62 : ∀ b, b ∈ fp0 → ¬ S b := fun b hb => (h21.lt b hb).2
    have c59 := Cx.ofUp C.sb u58
    have h63 : ∀ b, b ∈ fp60 → b ∈ fp0 ∨ Blk v2 b ∨ w20.heap.size ≤ b := fun b hb => (h61 b hb).imp id .inl
    have h64 : ∀ b, b ∈ fp60 → b ∈ fp0 ∨ Blk v2 b ∨ w.heap.size ≤ b := fun b hb => (h63 b hb).elim (fun hl => (hs0 b hl).imp id .inr) (fun hl => hl.elim (fun hl => .inr (.inl hl)) (fun hl => .inr (.inr (Nat.le_trans C.up.size hl))))
    replace C := C.ofc c59 hs0
    refine W.e ?_
    obtain rfl := Option.some.inj h
    exact ⟨_, rfl, _, _, _, rfl, C, h57, h64⟩

noncomputable def head_Head_Seal.b2 (y17 : (List Int)) (x38 : List api_Chunk) (x39 : Int) (x40 : Option head_Head) : Option (((List api_Chunk) × Int × (Option head_Head)) ⊕ ((List api_Chunk) × (Option head_Head))) :=
  (bif (decide (x39 < (y17.length : Int))) then (((at_ y17 x39).bind fun y54 => ((x40).bind fun y58 => ((indexFunc_ (fun x => head_Head_Seal_1 x y58) ((mget y54 y58.series).getD []) 0).bind fun y70 => ((bif (decide (y70 < (0 : Int))) then some (((mget y54 y58.series).getD []).length : Int) else some y70).bind fun o74 => (bif (o74 == (0 : Int)) then some (x38, (some y58)) else ((upto_ ((mget y54 y58.series).getD []) o74).bind fun y94 => ((merge_Of y94).bind fun y99 => ((app_ 32 x38 ([(api_Chunk.mk y54 y99)] : List api_Chunk)).bind fun y117 => ((from_ ((mget y54 y58.series).getD []) o74).bind fun y130 => ((slices_Clone_api_Point_api_Point y130).bind fun y135 => ((head_Head_put y58 y54 y135).bind fun y147 => some (y117, (some y147))))))))))))).bind fun o48 => (pur (IntKind.i64.wrap (x39 + (1 : Int))) fun y174 => some (.inl (o48.1, y174, o48.2)))) else some (.inr (x38, x40)))
noncomputable def head_Head_Seal (a0 : Option head_Head) : Option ((List api_Chunk) × (Option head_Head)) :=
  (((head_Head_Ids a0).bind fun y17 => (iter (fun s : (List api_Chunk) × Int × (Option head_Head) => head_Head_Seal.b2 y17 s.1 s.2.1 s.2.2) (([] : List api_Chunk), (0 : Int), a0))).bind fun o11 => some (o11.1, o11.2))
set_option maxRecDepth 100000 in
set_option maxHeartbeats 4000000 in
theorem head_Head_Seal_w {S : Nat → Prop} {w : World} {a0 : Option head_Head} {v0 : Value} {cs0 : List Value} {fp0 : List Nat} {r : (List api_Chunk) × (Option head_Head)} (hS : Sb S w) (h0 : Obo 67 head_Head.fs S w v0 a0 cs0 fp0) (h : head_Head_Seal a0 = some r) :
    Calls Try.prog 14 (List.toArray [v0]) w fun e w1 => ∃ S1 u0 us_0 up_0, e = .returned (u0) ∧ Cx (fun b => b ∈ fp0) S w S1 w1 ∧ Sl (kSl api_Chunk.k) S1 w1 u0 r.1 ∧ Obo 67 head_Head.fs S1 w1 v0 r.2 us_0 up_0 ∧ (∀ b, b ∈ up_0 → b ∈ fp0 ∨ w.heap.size ≤ b) := by
  refine enter Try.func14 rfl (by kernel_rfl) rfl ?_
  have C := Cx.refl (F := (fun b => b ∈ fp0)) hS
  unfold head_Head_Seal at h
  have hs0 : ∀ b, b ∈ fp0 → b ∈ fp0 ∨ w.heap.size ≤ b := fun b hb => .inl hb
  have hl0 : ∀ b ∈ fp0, b < w.heap.size := fun b hb => (h0.lt b hb).1
  refine cw_seq fun K1 k2 => ?_
  refine cw_region ?_
  refine sc (dc_boxS C.sb h0.cells1 fun b3 S4 w5 c6 h7 => ?_)
  replace h0 := h0.cx c6
  replace C := C.trans c6
  refine sv (asv (.slice none 0 0) rfl) (W.e (k2 _ _ ?_))
  refine cw_seq fun K9 k10 => ?_
  refine cw_region (sv (asv (.slice none 0 0) rfl) (W.e (k10 _ _ ?_)))
  obtain ⟨o11, h14, h⟩ := bnd_some h
  refine cw_seq' (fun ρ w1 => ∃ S1 v179 fp182 cs184, Cx (fun b => b ∈ fp0) S w S1 w1 ∧ Has ρ [(3, v179)] ∧ Ow api_Chunk.k 35 S1 w.heap.size w1 v179 o11.1 ∧ Obo 67 head_Head.fs S1 w1 v0 o11.2 cs184 fp182 ∧ (∀ b, b ∈ fp182 → b ∈ fp0 ∨ w.heap.size ≤ b) ∧ (∀ b, Blk v179 b → ¬ b ∈ fp182)) ?_ ?_
  · refine cw_seq fun K15 k16 => ?_
    refine cw_region (sr (rw_bk ag23 h7.2 rfl rfl) ?_)
    obtain ⟨y17, h18, h14⟩ := bnd_some h14
    refine sc (dc_call (vs := [v0]) can20 rfl ?_)
    refine (head_Head_Ids_w C.sb h0 h18).mono ?_
    rintro _ w19 ⟨S20, v22, rfl, c21, h23⟩
    refine ⟨_, rfl, ?_⟩
    have p24 := ap_fresh (fun b hb => (h23.lt b hb).1) (fun b hb => (h0.lt b hb).1)
    replace h23 := h23.base C.up.size
    replace h7 := h7.cx c21
    replace h0 := h0.cx c21
    replace C := C.trans c21
    refine sv (rv_lenS el51 h23.sealed rfl) (sv (mvv (.int .i64 0) rfl) (W.e (k16 _ _ (cw_block ?_))))
    refine cw_iter h14 (fun s ρ w1 => ∃ S1 v28 fp31 cs33, Cx (fun b => b ∈ fp0) S w S1 w1 ∧ Has ρ [(1, .pointer (some ⟨b3, 0, none⟩)), (3, v28), (9, v22), (10, .int .i64 (y17.length : Int)), (11, .int .i64 s.2.1)] ∧ Bs S1 w1 b3 [v0] 23 ∧ Ow api_Chunk.k 35 S1 w.heap.size w1 v28 s.1 ∧ Ow (kI .i64) 3 S1 w.heap.size w1 v22 y17 ∧ Obo 67 head_Head.fs S1 w1 v0 s.2.2 cs33 fp31 ∧ (∀ b, b ∈ fp31 → b ∈ fp0 ∨ w.heap.size ≤ b) ∧ Ap v28 v22 ∧ (∀ b, Blk v28 b → ¬ b ∈ fp31) ∧ (∀ b, Blk v22 b → ¬ b ∈ fp31)) ⟨_, _, _, _, C, ⟨rfl, rfl, rfl, rfl, rfl, trivial⟩, h7, Ow.nil _ _ _ _ _, h23, h0, hs0, ap_nil, ap_nil, p24⟩ ?_
    rintro ⟨x38, x39, x40⟩ q25 ρ w27 ⟨S26, v28, fp31, cs33, C, h37, h7, h29, h23, h30, h32, p34, p35, p36⟩ h42 h41
    refine h37.cw fun ρ => ?_
    clear h37
    replace h42 : head_Head_Seal.b2 y17 x38 x39 x40 = some q25 := h42
    unfold head_Head_Seal.b2 at h42
    refine cw_seq fun K43 k44 => ?_
    refine cw_region (sv (rv_lss rfl rfl) (W.e (k44 _ _ ?_)))
    refine cw_seq fun K45 k46 => ?_
    rcases bif_some h42 with ⟨b47, h42⟩ | ⟨b47, h42⟩
    · refine cw_t rfl b47 (cw_skip (k46 _ _ ?_))
      obtain ⟨o48, h51, h42⟩ := bnd_some h42
      refine cw_seq' (fun ρ w1 => ∃ S1 v164 fp167 cs169, Cx (fun b => b ∈ fp0) S w S1 w1 ∧ Has ρ [(1, .pointer (some ⟨b3, 0, none⟩)), (3, v164), (9, v22), (10, .int .i64 (y17.length : Int)), (11, .int .i64 x39)] ∧ Bs S1 w1 b3 [v0] 23 ∧ Ow api_Chunk.k 35 S1 w.heap.size w1 v164 o48.1 ∧ Ow (kI .i64) 3 S1 w.heap.size w1 v22 y17 ∧ Obo 67 head_Head.fs S1 w1 v0 o48.2 cs169 fp167 ∧ (∀ b, b ∈ fp167 → b ∈ fp0 ∨ w.heap.size ≤ b) ∧ Ap v164 v22 ∧ (∀ b, Blk v164 b → ¬ b ∈ fp167) ∧ (∀ b, Blk v22 b → ¬ b ∈ fp167)) ?_ ?_
      · refine cw_block ?_
        refine cw_seq fun K52 k53 => ?_
        refine cw_region ?_
        obtain ⟨y54, h55, h51⟩ := bnd_some h51
        refine sv (rv_index el51 h23.sealed rfl rfl h55) (sr (rw_loadC el51 h23.sealed h55 rfl _ (Sm.refl _ _)) (sv (asv (.int .i64 y54) rfl) (W.e (k53 _ _ ?_))))
        refine cw_seq fun K56 k57 => ?_
        refine cw_region (sr (rw_bk ag23 h7.2 rfl rfl) ?_)
        obtain ⟨y58, h59, h51⟩ := bnd_some h51
        have h60 := h30
        rw [h59] at h60
        replace h60 : Ob 67 (head_Head.fs y58) _ _ _ _ _ := h60
        refine sv (rv_nilcheck rfl h60.ptr) (sv (rv_fieldAddr (b := pb v0) (o := 0) st67 rfl h60.ptr) ?_)
        obtain ⟨c61, h62⟩ := h60.at (i := 1) rfl
        refine sr (rw_ofield (i := 1) (c := c61) h60 ag65 h62 rfl) (sv (mvv (.int .i64 y54) rfl) ?_)
        obtain ⟨v63, h64, h65, h66, h67⟩ := Ob.lendU (P := Try.prog) (tm := 65) (te := 33) h60 (i := 1) rfl h62 Try.underlying65 zv33 y54
        refine sr (h66 (Sm.refl _ _) rfl rfl) (sv (asv v63 rfl) (W.e (k57 _ _ ?_)))
        refine cw_seq fun K68 k69 => ?_
        refine cw_region (sv (mvv v63 rfl) (sv (rv_mkfn (vs := [.pointer (some ⟨b3, 0, none⟩)]) rfl) ?_))
        obtain ⟨y70, h71, h51⟩ := bnd_some h51
        refine sc (dc_call (vs := [v63, .func (.func 35) #[] (List.toArray [.pointer (some ⟨b3, 0, none⟩)])]) can34 rfl ?_)
        have h71f := fun (x : api_Point) (w' : World) (v : Value) (hu : Up No w27 w') (hx : Sl api_Point.k (Or S26 (Blk v63)) w' v x) (b : Bool) (hb : head_Head_Seal_1 x y58 = some b) => (head_Head_Seal_1_w (C.sb.up hu) (hx.flat api_Point_flat) (h60.nw hu) (h7.nw hu) hb).mono fun e w1 hp => (by obtain ⟨S1, rfl, c⟩ := hp; exact ⟨rfl, c.up⟩ : e = .returned (.bool b) ∧ Up No w' w1)
        refine (slices_IndexFunc_api_Point_api_Point_w (h64.sbO C.sb) h64.sealed can35 h71f h71).mono ?_
        rintro _ w72 ⟨rfl, u73⟩
        refine ⟨_, rfl, ?_⟩
        replace h7 := h7.nw u73
        replace h60 := h60.nw u73
        replace h30 := h30.nw u73
        replace h29 := h29.nw u73
        replace h64 := h64.nw u73
        replace h23 := h23.nw u73
        replace C := C.new u73
        refine sv (asv (.int .i64 y70) rfl) (W.e (k69 _ _ ?_))
        obtain ⟨o74, h77, h51⟩ := bnd_some h51
        refine cw_seq' (fun ρ w1 => ∃ S1, Cx (fun b => b ∈ fp0) S w S1 w1 ∧ Has ρ [(1, .pointer (some ⟨b3, 0, none⟩)), (3, v28), (5, .int .i64 y54), (6, v63), (7, .int .i64 o74), (9, v22), (10, .int .i64 (y17.length : Int)), (11, .int .i64 x39)] ∧ Bs S1 w1 b3 [v0] 23 ∧ Ow api_Chunk.k 35 S1 w.heap.size w1 v28 x38 ∧ Ow api_Point.k 29 S1 0 w1 v63 ((mget y54 y58.series).getD []) ∧ Ow (kI .i64) 3 S1 w.heap.size w1 v22 y17 ∧ Obo 67 head_Head.fs S1 w1 v0 x40 cs33 fp31 ∧ Ob 67 (head_Head.fs y58) S1 w1 v0 cs33 fp31 ∧ Ap v28 v22 ∧ (∀ b, Blk v28 b → ¬ b ∈ fp31) ∧ (∀ b, Blk v22 b → ¬ b ∈ fp31)) ?_ ?_
        · refine cw_seq fun K78 k79 => ?_
          refine cw_region (sv (mvv (.int .i64 y70) rfl) (sv (rv_lss rfl rfl) (W.e (k79 _ _ ?_))))
          rcases bif_some h77 with ⟨b80, h77⟩ | ⟨b80, h77⟩
          · refine cw_t rfl b80 (cw_region (sv (mvv v63 rfl) (sv (rv_lenS el33 h64.sealed rfl) (sv (asv (.int .i64 (((mget y54 y58.series).getD []).length : Int)) rfl) (W.e ?_)))))
            obtain rfl := Option.some.inj h77
            exact ⟨_, C, ⟨rfl, rfl, rfl, rfl, rfl, rfl, rfl, rfl, trivial⟩, h7, h29, h64, h23, h30, h60, p34, p35, p36⟩
          · refine cw_f rfl b80 (cw_skip ?_)
            obtain rfl := Option.some.inj h77
            exact ⟨_, C, ⟨rfl, rfl, rfl, rfl, rfl, rfl, rfl, rfl, trivial⟩, h7, h29, h64, h23, h30, h60, p34, p35, p36⟩
        · rintro ρ w82 ⟨S81, C, h86, h7, h29, h64, h23, h30, h60, p83, p84, p85⟩
          refine h86.cw fun ρ => ?_
          clear h86
          refine cw_seq fun K87 k88 => ?_
          refine cw_seq fun K89 k90 => ?_
          refine cw_region (sv (mvv (.int .i64 o74) rfl) (sv (rv_eql rfl rfl) (W.e (k90 _ _ ?_))))
          rcases bif_some h51 with ⟨b91, h51⟩ | ⟨b91, h51⟩
          · refine cw_t rfl b91 (cw_exit ?_)
            obtain rfl := Option.some.inj h51
            exact ⟨_, _, _, _, C, ⟨rfl, rfl, rfl, rfl, rfl, trivial⟩, h7, h29, h23, h60, h32, p83, p84, p85⟩
          · refine cw_f rfl b91 (cw_skip (k88 _ _ ?_))
            refine cw_seq fun K92 k93 => ?_
            refine cw_region (sv (mvv v28 rfl) (sv (mvv (.int .i64 y54) rfl) (sv (mvv v63 rfl) (sv (mvv (.int .i64 o74) rfl) ?_))))
            obtain ⟨y94, h95, h51⟩ := bnd_some h51
            obtain ⟨v96, h97, h98⟩ := rv_uptoA (P := Try.prog) el33 h64.sealed h95
            refine sv (h98 rfl rfl) ?_
            obtain ⟨y99, h100, h51⟩ := bnd_some h51
            refine sc (dc_call (vs := [v96]) can36 rfl ?_)
            refine (merge_Of_w (h64.sbO C.sb) h97 h100).mono ?_
            rintro _ w101 ⟨S102, v104, rfl, c103, h105⟩
            refine ⟨_, rfl, ?_⟩
            replace h105 := h105.flat api_Point_flat (S := S81) fun b hb => c103.ge.le b (.inl hb)
            have p106 := ap_fresh (fun b hb => (h105.lt b hb).1) (fun b hb => (h60.lt b hb).1)
            have p107 := ap_fresh (fun b hb => (h105.lt b hb).1) (fun b hb => (h23.lt b hb).2)
            have p108 := ap_fresh (fun b hb => (h105.lt b hb).1) (fun b hb => (h29.lt b hb).2)
            replace h105 := h105.base C.up.size
            replace h7 := h7.nw c103.up
            replace h60 := h60.nw c103.up
            replace h30 := h30.nw c103.up
            replace h64 := h64.nw c103.up
            replace h23 := h23.nw c103.up
            replace h29 := h29.nw c103.up
            replace C := C.new c103.up
            replace h7 := h7.or (T := Blk v104)
            replace h60 := h60.or (ap_symm p106)
            replace h30 := h30.or (ap_symm p106)
            replace h29 := h29.or (ap_symm p108)
            replace h64 := h64.or (fun b h1 h2 => (ap_symm p106) b (h65 b h1).1 h2)
            replace h23 := h23.or (ap_symm p107)
            replace C := C.sealO h105
            replace h105 := h105.sealed
            refine sv (rv_build (r := [.int .i64 y54, v104]) st35 zr35 (by obtain ⟨_, _, rfl⟩ := h105.len; rfl)) ?_
            refine sc (dc_lit (vs := [.agg (List.toArray [.int .i64 y54, v104])]) (xs := ([(api_Chunk.mk y54 y99)] : List api_Chunk)) (base := w.heap.size) el31 rfl rfl (.cons (api_Chunk.o.2 ⟨_, rfl, h105⟩) (.nil)) (Nat.le_of_ble_eq_true rfl) C.up.size C.sb fun v109 w110 h111 h112 u113 => ?_)
            have p114 := ap_fresh h112 (fun b hb => (h60.lt b hb).1)
            have p115 := ap_fresh h112 (fun b hb => (h23.lt b hb).2)
            have p116 := ap_fresh h112 (fun b hb => (h29.lt b hb).2)
            replace h7 := h7.nw u113
            replace h60 := h60.nw u113
            replace h30 := h30.nw u113
            replace h64 := h64.nw u113
            replace h23 := h23.nw u113
            replace h29 := h29.nw u113
            replace C := C.new u113
            obtain ⟨y117, h118, h51⟩ := bnd_some h51
            have h124 := h29
            refine sc (dc_append el31 (by decide) h124 h111.src rfl rfl h118 C.up.size C.sb fun v119 w120 h121 u122 h123 => ?_)
            have p125 := ap_grow p84 h123 (fun b hb => (h60.lt b hb).1)
            have p126 := ap_grow p83 h123 (fun b hb => (h23.lt b hb).2)
            replace h7 := h7.wr u122 h124.not
            replace h60 := h60.wr u122 h124.not (ap_symm p84)
            replace h30 := h30.wr u122 h124.not (ap_symm p84)
            replace h64 := h64.wr u122 h124.not (fun b h1 h2 => (ap_symm p84) b (h65 b h1).1 h2)
            replace h23 := h23.wr u122 h124.not (ap_symm p83)
            replace C := C.ow h124 u122
            refine sv (asv v119 rfl) (W.e (k93 _ _ ?_))
            refine cw_drawU (.one 0 true (.one 1 true (.one 2 true (.one 3 true (.one 4 true (.one 5 false (.one 6 false .done))))))) [(0, [0])] [(5, [0]), (6, [])] (fun c => bif Nat.beq c 0 then (Or S81 (Blk v104)) else No) fol (by kernel_rfl) fun w127 u128 => ?_
            replace h7 := h7.nw u128
            replace h60 := h60.nw u128
            replace h30 := h30.nw u128
            replace h121 := h121.nw u128
            replace h64 := h64.nw u128
            replace h23 := h23.nw u128
            replace C := C.new u128
            have h7d := h7
            have h60d := h60
            have h30d := h30
            have h121d := h121
            have h64d := h64
            have h23d := h23
            have m129 := Sm.refl (Or S81 (Blk v104)) w127
            refine mtr rfl rfl ⟨m129, trivial⟩ (fun w' hq => rw_bk ag23 (h7.sm hq.1) rfl rfl) (mtv rfl rfl (mvv (.int .i64 y54) rfl) (mtv rfl rfl (mvv v63 rfl) (mtv rfl rfl (mvv (.int .i64 o74) rfl) ?_)))
            obtain ⟨y130, h131, h51⟩ := bnd_some h51
            obtain ⟨v132, h133, h134⟩ := rv_fromA (P := Try.prog) el33 h64.sealed h131
            refine mtv rfl rfl (h134 rfl rfl) ?_
            obtain ⟨y135, h136, h51⟩ := bnd_some h51
            refine mtc rfl rfl (dc_call (vs := [v132]) can38 rfl ?_)
            refine (slices_Clone_api_Point_api_Point_w (h64.sbO C.sb) h133 h136).mono ?_
            rintro _ w137 ⟨S138, v140, rfl, c139, h141⟩
            refine ⟨_, rfl, ?_⟩
            replace h141 := h141.flat api_Point_flat (S := (Or S81 (Blk v104))) fun b hb => c139.ge.le b (.inl hb)
            have p142 := ap_fresh (fun b hb => (h141.lt b hb).1) (fun b hb => (h60.lt b hb).1)
            have p143 := ap_fresh (fun b hb => (h141.lt b hb).1) (fun b hb => (h121.lt b hb).2)
            have p144 := ap_fresh (fun b hb => (h141.lt b hb).1) (fun b hb => (h23.lt b hb).2)
            replace h141 := h141.base C.up.size
            replace h7 := h7.nw c139.up
            replace h60 := h60.nw c139.up
            replace h30 := h30.nw c139.up
            replace h121 := h121.nw c139.up
            replace h23 := h23.nw c139.up
            replace C := C.new c139.up
            have z145 := (c139.up).size
            have m146 := m129.nx c139.up (by omega)
            refine ⟨⟨m146, trivial⟩, ?_⟩
            obtain ⟨y147, h148, h51⟩ := bnd_some h51
            refine mtc rfl rfl (dc_call (vs := [v0, .int .i64 y54, v140]) can37 rfl ?_)
            refine (head_Head_put_w C.sb h60 h141 p142 h148).mono ?_
            rintro _ w149 ⟨S150, cs152, fp153, rfl, c151, h154, h155⟩
            refine ⟨_, rfl, ?_⟩
            have h156 : ∀ b, b ∈ fp31 → ¬ (Or S81 (Blk v104)) b := fun b hb => (h60.lt b hb).2
            have p157 := ap_grow (A := fun b => b ∈ fp31 ∨ Blk v140 b) (fun b hq => hq.elim ((ap_symm p125) b) (p143 b)) (fun b hq => or_assoc.2 (h155 b hq)) (fun b hb => (h121.lt b hb).2)
            have p158 := ap_grow (A := fun b => b ∈ fp31 ∨ Blk v140 b) (fun b hq => hq.elim ((ap_symm p85) b) (p144 b)) (fun b hq => or_assoc.2 (h155 b hq)) (fun b hb => (h23.lt b hb).2)
            have h159 : ∀ b, b ∈ fp153 → b ∈ fp0 ∨ w.heap.size ≤ b := fun b hb => (h155 b hb).elim (h32 b) (fun hl => hl.elim (fun hl => .inr (h141.lt b hl).1) (fun hl => .inr (Nat.le_trans C.up.size hl)))
            replace h7 := h7.cf c151 h156
            replace h121 := h121.cf c151 h156 p125
            replace h23 := h23.cf c151 h156 p85
            replace C := C.ofc c151 h32
            have z160 := (c151.up).size
            have m161 := m146.wrC c151.up (by omega) h156
            refine ⟨trivial, ?_⟩
            refine MT.e ?_
            obtain rfl := Option.some.inj h51
            exact ⟨_, _, _, _, C, ⟨rfl, rfl, rfl, rfl, rfl, trivial⟩, h7, h121, h23, h154, h159, p126, (ap_symm p157), (ap_symm p158)⟩
      · rintro ρ w163 ⟨S162, v164, fp167, cs169, C, h173, h7, h165, h23, h166, h168, p170, p171, p172⟩
        refine h173.cw fun ρ => ?_
        clear h173
        refine cw_region ?_
        obtain ⟨y174, h175, h42⟩ := pur_some h42
        refine sv (rv_add rfl rfl h175) (sv (mvv (.int .i64 y174) rfl) (W.e ?_))
        obtain rfl := Option.some.inj h42
        exact ⟨_, rfl, ⟨_, _, _, _, C, ⟨rfl, rfl, rfl, rfl, rfl, trivial⟩, h7, h165, h23, h166, h168, p170, p171, p172⟩⟩
    · refine cw_f rfl b47 (cw_exit ?_)
      obtain rfl := Option.some.inj h42
      have h176 := congrArg some h41
      obtain rfl := Option.some.inj h176
      exact ⟨_, _, _, _, C, ⟨rfl, trivial⟩, h29, h30, h32, p35⟩
  · rintro ρ w178 ⟨S177, v179, fp182, cs184, C, h186, h180, h181, h183, p185⟩
    refine h186.cw fun ρ => ?_
    clear h186
    refine cw_seq fun K187 k188 => ?_
    refine cw_region (sv (mvv v179 rfl) (sv (asv v179 rfl) (W.e (k188 _ _ (cw_ret ?_)))))
    obtain rfl := Option.some.inj h
    replace h181 := h181.or (ap_symm p185)
    replace C := C.sealO h180
    replace h180 := h180.sealed
    exact ⟨_, rfl, _, _, _, _, rfl, C, h180, h181, h183⟩

end Go.Proofs.Ytconkjamlhfneaa
