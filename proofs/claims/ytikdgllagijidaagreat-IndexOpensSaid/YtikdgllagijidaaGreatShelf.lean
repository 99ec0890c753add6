/-
  DERIVED: THE SHELF's CONTRACTS AT THIS DUMP, IN PLAIN WORDS (tools/lay-plain.mjs out of 'TryzShelf.lean', which tools/lay-shelf.mjs wrote): THE SAME DECLARATIONS UNDER THE SAME NAMES: 'import', 'namespace', 'open', 'def', 'theorem' AND NOTHING ELSE: no command of the shelf's: FOR A HAND-IN. Each laying: the table of numbers ('.._ren') and one theorem, a field a fact of the dump's own or the kernel's comparison; each contract: ONE APPLICATION.
-/
import Derived.Shelf.Small.Wraps
import Derived.Shelf.Strconv.Itoa0
import Derived.Shelf.Sort.Plain
import Derived.Shelf.Slices.In.SortNone
import Derived.Test.YtikdgllagijidaaGreatProg
namespace Go.Proofs
open Go.Shelf
def Tryz.lays215_ren : Go.Shelf.Ren := ⟨fun | 215 => 135 | n => n, fun | 3 => 3 | 4 => 4 | n => n, fun | n => n⟩
theorem Tryz.lays215 : Go.Proofs.Lays.n215 Tryz.prog Tryz.lays215_ren := {
  mixed := by kernel_rfl
  f215 := Tryz.func135.trans (congrArg some (by kernel_rfl))
  t3 := Tryz.underlying3
  a3 := Tryz.isAgg3
  z3 := Tryz.sizeOf3
  v3 := Tryz.zeroValue3
  t4 := Tryz.underlying4
  a4 := Tryz.isAgg4
  z4 := Tryz.sizeOf4
  v4 := Tryz.zeroValue4 }
open Go.RowKit in
theorem Tryz.cmp_isNaN_int (x : Int) (w : World) :
    Calls Tryz.prog 135 #[.int .i64 x] w fun e w' => e = .returned (.bool false) ∧ w' = w := Any.cmp_isNaN_int Tryz.lays215 x w
def Tryz.lays129_ren : Go.Shelf.Ren := ⟨fun | 129 => 66 | n => n, fun | 53 => 74 | 3 => 3 | 4 => 4 | 46 => 107 | 5 => 5 | 9 => 9 | n => n, fun | n => n⟩
theorem Tryz.lays129 : Go.Proofs.Lays.n129 Tryz.prog Tryz.lays129_ren := {
  mixed := by kernel_rfl
  f129 := Tryz.func66.trans (congrArg some (by kernel_rfl))
  t3 := Tryz.underlying3
  a3 := Tryz.isAgg3
  z3 := Tryz.sizeOf3
  v3 := Tryz.zeroValue3
  t4 := Tryz.underlying4
  a4 := Tryz.isAgg4
  z4 := Tryz.sizeOf4
  v4 := Tryz.zeroValue4
  t5 := Tryz.underlying5
  a5 := Tryz.isAgg5
  z5 := Tryz.sizeOf5
  v5 := Tryz.zeroValue5
  t9 := Tryz.underlying9
  a9 := Tryz.isAgg9
  z9 := Tryz.sizeOf9
  v9 := Tryz.zeroValue9
  t46 := Tryz.underlying107
  a46 := Tryz.isAgg107
  z46 := Tryz.sizeOf107
  v46 := Tryz.zeroValue107
  t53 := Tryz.underlying74
  a53 := Tryz.isAgg74
  z53 := Tryz.sizeOf74
  v53 := Tryz.zeroValue74 }
theorem Tryz.bits_Len64 (x : Int) (w : World) (h0 : 0 ≤ x) (h1 : x ≤ 18446744073709551615) :
    Calls Tryz.prog 66 #[.int .u64 x] w fun e w' => e = .returned (.int .i64 (Lib.bitLen x.toNat)) ∧ w' = w := Any.bits_Len64 Tryz.lays129 x w h0 h1
def Tryz.lays189_ren : Go.Shelf.Ren := ⟨fun | 189 => 61 | 125 => 85 | 257 => 86 | 128 => 108 | 129 => 66 | 294 => 109 | 295 => 110 | 296 => 111 | 297 => 112 | 298 => 113 | 299 => 114 | 216 => 115 | 300 => 116 | 301 => 117 | 328 => 132 | 329 => 128 | 330 => 129 | 331 => 133 | 332 => 134 | 215 => 135 | 343 => 140 | n => n, fun | 28 => 49 | 3 => 3 | 46 => 107 | 0 => 0 | 51 => 144 | 53 => 74 | 4 => 4 | 183 => 138 | 182 => 137 | 131 => 64 | 5 => 5 | 9 => 9 | 218 => 158 | 222 => 161 | 228 => 168 | 229 => 169 | n => n, fun | n => n⟩
theorem Tryz.lays189 : Go.Proofs.Lays.n189 Tryz.prog Tryz.lays189_ren := {
  mixed := by kernel_rfl
  f125 := Tryz.func85.trans (congrArg some (by kernel_rfl))
  f128 := Tryz.func108.trans (congrArg some (by kernel_rfl))
  f129 := Tryz.func66.trans (congrArg some (by kernel_rfl))
  f189 := Tryz.func61.trans (congrArg some (by kernel_rfl))
  f215 := Tryz.func135.trans (congrArg some (by kernel_rfl))
  f216 := Tryz.func115.trans (congrArg some (by kernel_rfl))
  f257 := Tryz.func86.trans (congrArg some (by kernel_rfl))
  f294 := Tryz.func109.trans (congrArg some (by kernel_rfl))
  f295 := Tryz.func110.trans (congrArg some (by kernel_rfl))
  f296 := Tryz.func111.trans (congrArg some (by kernel_rfl))
  f297 := Tryz.func112.trans (congrArg some (by kernel_rfl))
  f298 := Tryz.func113.trans (congrArg some (by kernel_rfl))
  f299 := Tryz.func114.trans (congrArg some (by kernel_rfl))
  f300 := Tryz.func116.trans (congrArg some (by kernel_rfl))
  f301 := Tryz.func117.trans (congrArg some (by kernel_rfl))
  f328 := Tryz.func132.trans (congrArg some (by kernel_rfl))
  f329 := Tryz.func128.trans (congrArg some (by kernel_rfl))
  f330 := Tryz.func129.trans (congrArg some (by kernel_rfl))
  f331 := Tryz.func133.trans (congrArg some (by kernel_rfl))
  f332 := Tryz.func134.trans (congrArg some (by kernel_rfl))
  f343 := Tryz.func140.trans (congrArg some (by kernel_rfl))
  t0 := Tryz.underlying0
  a0 := Tryz.isAgg0
  z0 := Tryz.sizeOf0
  v0 := Tryz.zeroValue0
  t3 := Tryz.underlying3
  a3 := Tryz.isAgg3
  z3 := Tryz.sizeOf3
  v3 := Tryz.zeroValue3
  t4 := Tryz.underlying4
  a4 := Tryz.isAgg4
  z4 := Tryz.sizeOf4
  v4 := Tryz.zeroValue4
  t5 := Tryz.underlying5
  a5 := Tryz.isAgg5
  z5 := Tryz.sizeOf5
  v5 := Tryz.zeroValue5
  t9 := Tryz.underlying9
  a9 := Tryz.isAgg9
  z9 := Tryz.sizeOf9
  v9 := Tryz.zeroValue9
  t28 := Tryz.underlying49
  a28 := Tryz.isAgg49
  z28 := Tryz.sizeOf49
  v28 := Tryz.zeroValue49
  t46 := Tryz.underlying107
  a46 := Tryz.isAgg107
  z46 := Tryz.sizeOf107
  v46 := Tryz.zeroValue107
  t51 := Tryz.underlying144
  a51 := Tryz.isAgg144
  z51 := Tryz.sizeOf144
  v51 := Tryz.zeroValue144
  t53 := Tryz.underlying74
  a53 := Tryz.isAgg74
  z53 := Tryz.sizeOf74
  v53 := Tryz.zeroValue74
  t131 := Tryz.underlying64
  a131 := Tryz.isAgg64
  z131 := Tryz.sizeOf64
  v131 := Tryz.zeroValue64
  t182 := Tryz.underlying137
  a182 := Tryz.isAgg137
  z182 := Tryz.sizeOf137
  v182 := Tryz.zeroValue137
  t183 := Tryz.underlying138
  a183 := Tryz.isAgg138
  z183 := Tryz.sizeOf138
  v183 := Tryz.zeroValue138
  t218 := Tryz.underlying158
  a218 := Tryz.isAgg158
  z218 := Tryz.sizeOf158
  v218 := Tryz.zeroValue158
  t222 := Tryz.underlying161
  a222 := Tryz.isAgg161
  z222 := Tryz.sizeOf161
  v222 := Tryz.zeroValue161
  t228 := Tryz.underlying168
  a228 := Tryz.isAgg168
  z228 := Tryz.sizeOf168
  v228 := Tryz.zeroValue168
  t229 := Tryz.underlying169
  a229 := Tryz.isAgg169
  z229 := Tryz.sizeOf169
  v229 := Tryz.zeroValue169 }
open Go.Sort Go.RowKit in
theorem Tryz.slices_Sort_int (blk off cap : Nat) (zs : List Int) (w : World) (hH : Holds (Value.int .i64) w blk off zs.toArray) (hblk : blk < w.heap.size) (hsz : zs.length < 4611686018427387904) :
    Calls Tryz.prog 61 #[.slice (some ⟨blk, off, none⟩) zs.length cap] w fun e w' =>
      e = .returned (.tuple #[]) ∧ ∃ n os, w' = grow (putRow (Value.int .i64) (Sort.ahead w n) blk off (zs.mergeSort fun x y => decide (x ≤ y)).toArray) os := Any.slices_Sort_int Tryz.lays189 blk off cap zs w hH hblk hsz
def Tryz.lays190_ren : Go.Shelf.Ren := ⟨fun | 190 => 59 | 125 => 85 | 258 => 84 | 128 => 108 | 129 => 66 | 302 => 99 | 303 => 100 | 304 => 101 | 305 => 102 | 306 => 103 | 307 => 104 | 308 => 105 | 309 => 106 | 310 => 107 | 333 => 127 | 329 => 128 | 330 => 129 | 334 => 130 | 335 => 131 | 336 => 121 | 344 => 139 | n => n, fun | 31 => 70 | 9 => 9 | 3 => 3 | 46 => 107 | 0 => 0 | 51 => 144 | 53 => 74 | 4 => 4 | 183 => 138 | 182 => 137 | 131 => 64 | 5 => 5 | 218 => 158 | 222 => 161 | 228 => 168 | 229 => 169 | n => n, fun | n => n⟩
theorem Tryz.lays190 : Go.Proofs.Lays.n190 Tryz.prog Tryz.lays190_ren := {
  mixed := by kernel_rfl
  f125 := Tryz.func85.trans (congrArg some (by kernel_rfl))
  f128 := Tryz.func108.trans (congrArg some (by kernel_rfl))
  f129 := Tryz.func66.trans (congrArg some (by kernel_rfl))
  f190 := Tryz.func59.trans (congrArg some (by kernel_rfl))
  f258 := Tryz.func84.trans (congrArg some (by kernel_rfl))
  f302 := Tryz.func99.trans (congrArg some (by kernel_rfl))
  f303 := Tryz.func100.trans (congrArg some (by kernel_rfl))
  f304 := Tryz.func101.trans (congrArg some (by kernel_rfl))
  f305 := Tryz.func102.trans (congrArg some (by kernel_rfl))
  f306 := Tryz.func103.trans (congrArg some (by kernel_rfl))
  f307 := Tryz.func104.trans (congrArg some (by kernel_rfl))
  f308 := Tryz.func105.trans (congrArg some (by kernel_rfl))
  f309 := Tryz.func106.trans (congrArg some (by kernel_rfl))
  f310 := Tryz.func107.trans (congrArg some (by kernel_rfl))
  f329 := Tryz.func128.trans (congrArg some (by kernel_rfl))
  f330 := Tryz.func129.trans (congrArg some (by kernel_rfl))
  f333 := Tryz.func127.trans (congrArg some (by kernel_rfl))
  f334 := Tryz.func130.trans (congrArg some (by kernel_rfl))
  f335 := Tryz.func131.trans (congrArg some (by kernel_rfl))
  f336 := Tryz.func121.trans (congrArg some (by kernel_rfl))
  f344 := Tryz.func139.trans (congrArg some (by kernel_rfl))
  t0 := Tryz.underlying0
  a0 := Tryz.isAgg0
  z0 := Tryz.sizeOf0
  v0 := Tryz.zeroValue0
  t3 := Tryz.underlying3
  a3 := Tryz.isAgg3
  z3 := Tryz.sizeOf3
  v3 := Tryz.zeroValue3
  t4 := Tryz.underlying4
  a4 := Tryz.isAgg4
  z4 := Tryz.sizeOf4
  v4 := Tryz.zeroValue4
  t5 := Tryz.underlying5
  a5 := Tryz.isAgg5
  z5 := Tryz.sizeOf5
  v5 := Tryz.zeroValue5
  t9 := Tryz.underlying9
  a9 := Tryz.isAgg9
  z9 := Tryz.sizeOf9
  v9 := Tryz.zeroValue9
  t31 := Tryz.underlying70
  a31 := Tryz.isAgg70
  z31 := Tryz.sizeOf70
  v31 := Tryz.zeroValue70
  t46 := Tryz.underlying107
  a46 := Tryz.isAgg107
  z46 := Tryz.sizeOf107
  v46 := Tryz.zeroValue107
  t51 := Tryz.underlying144
  a51 := Tryz.isAgg144
  z51 := Tryz.sizeOf144
  v51 := Tryz.zeroValue144
  t53 := Tryz.underlying74
  a53 := Tryz.isAgg74
  z53 := Tryz.sizeOf74
  v53 := Tryz.zeroValue74
  t131 := Tryz.underlying64
  a131 := Tryz.isAgg64
  z131 := Tryz.sizeOf64
  v131 := Tryz.zeroValue64
  t182 := Tryz.underlying137
  a182 := Tryz.isAgg137
  z182 := Tryz.sizeOf137
  v182 := Tryz.zeroValue137
  t183 := Tryz.underlying138
  a183 := Tryz.isAgg138
  z183 := Tryz.sizeOf138
  v183 := Tryz.zeroValue138
  t218 := Tryz.underlying158
  a218 := Tryz.isAgg158
  z218 := Tryz.sizeOf158
  v218 := Tryz.zeroValue158
  t222 := Tryz.underlying161
  a222 := Tryz.isAgg161
  z222 := Tryz.sizeOf161
  v222 := Tryz.zeroValue161
  t228 := Tryz.underlying168
  a228 := Tryz.isAgg168
  z228 := Tryz.sizeOf168
  v228 := Tryz.zeroValue168
  t229 := Tryz.underlying169
  a229 := Tryz.isAgg169
  z229 := Tryz.sizeOf169
  v229 := Tryz.zeroValue169 }
open Go.Sort Go.RowKit in
theorem Tryz.slices_Sort_string (blk off cap : Nat) (ss : List (List UInt8)) (w : World) (hH : Holds encStr w blk off ss.toArray) (hblk : blk < w.heap.size) (hsz : ss.length < 4611686018427387904) :
    Calls Tryz.prog 59 #[.slice (some ⟨blk, off, none⟩) ss.length cap] w fun e w' =>
      e = .returned (.tuple #[]) ∧ ∃ n os, w' = grow (putRow encStr (Sort.ahead w n) blk off (ss.mergeSort fun x y => decide (x ≤ y)).toArray) os := Any.slices_Sort_string Tryz.lays190 blk off cap ss w hH hblk hsz
theorem Tryz.slices_Sort_string_none (p : Option Addr) (cap : Nat) (w : World) :
    Calls Tryz.prog 59 #[.slice p 0 cap] w fun e w' => e = .returned (.tuple #[]) ∧ w' = w := Any.slices_Sort_string_none Tryz.lays190 p cap w
open Go.RowKit Go.Sort in
theorem Tryz.slices_Sort_int_none (p : Option Addr) (cap : Nat) (w : World) :
    Calls Tryz.prog 61 #[.slice p 0 cap] w fun e w' => e = .returned (.tuple #[]) ∧ w' = w := Any.slices_Sort_int_none Tryz.lays189 p cap w
end Go.Proofs
