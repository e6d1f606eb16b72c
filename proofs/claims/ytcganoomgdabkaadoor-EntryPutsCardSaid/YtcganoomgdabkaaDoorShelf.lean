/-
  DERIVED: THE SHELF's CONTRACTS AT THIS DUMP, IN PLAIN WORDS (tools/lay-plain.mjs out of 'YtcganoomgdabkaaDoorShelfESrc.lean', which tools/lay-shelf.mjs wrote): THE SAME DECLARATIONS UNDER THE SAME NAMES: 'import', 'namespace', 'open', 'def', 'theorem' AND NOTHING ELSE: no command of the shelf's: FOR A HAND-IN. Each laying: the table of numbers ('.._ren') and one theorem, a field a fact of the dump's own or the kernel's comparison; each contract: ONE APPLICATION.
-/
import Derived.Shelf.Strings.Trim
import Derived.Shelf.Small.Utf8
import Derived.Shelf.Small.Strs
import Derived.Shelf.Strings.Search1
import Derived.Shelf.Sort.Plain
import Derived.Shelf.Strings.Runes
import Derived.Shelf.Strings.AsciiSet
import Derived.Shelf.Unicode.DecodeSlow
import Derived.Shelf.Slices.In.SortNone
import Derived.Shelf.Bytes.SlEqualAll
import Derived.Shelf.Bytes.Small
import Derived.Shelf.Strings.SlTrimAscii
import Derived.Test.YtcganoomgdabkaaDoorProg
namespace Go.Proofs
open Go.Shelf
def Tryd.lays160_ren : Go.Shelf.Ren := ⟨fun | 160 => 34 | 232 => 40 | 231 => 39 | 227 => 41 | 234 => 43 | 233 => 42 | 236 => 45 | 235 => 44 | 228 => 57 | 271 => 60 | 151 => 59 | 197 => 58 | 120 => 69 | 152 => 68 | 260 => 67 | 137 => 71 | 119 => 72 | 224 => 73 | 225 => 74 | 217 => 75 | 266 => 76 | n => n, fun | 9 => 9 | 4 => 4 | 3 => 3 | 5 => 5 | 117 => 69 | 116 => 68 | 0 => 0 | 124 => 72 | 21 => 21 | 105 => 85 | 46 => 65 | 119 => 98 | 139 => 101 | 138 => 100 | n => n, fun | 3 => 0 | 4 => 1 | n => n⟩
theorem Tryd.lays160 : Go.Proofs.Lays.n160 Tryd.prog Tryd.lays160_ren := {
  mixed := by kernel_rfl
  f119 := Tryd.func72.trans (congrArg some (by kernel_rfl))
  f120 := Tryd.func69.trans (congrArg some (by kernel_rfl))
  f137 := Tryd.func71.trans (congrArg some (by kernel_rfl))
  f151 := Tryd.func59.trans (congrArg some (by kernel_rfl))
  f152 := Tryd.func68.trans (congrArg some (by kernel_rfl))
  f160 := Tryd.func34.trans (congrArg some (by kernel_rfl))
  f197 := Tryd.func58.trans (congrArg some (by kernel_rfl))
  f217 := Tryd.func75.trans (congrArg some (by kernel_rfl))
  f224 := Tryd.func73.trans (congrArg some (by kernel_rfl))
  f225 := Tryd.func74.trans (congrArg some (by kernel_rfl))
  f227 := Tryd.func41.trans (congrArg some (by kernel_rfl))
  f228 := Tryd.func57.trans (congrArg some (by kernel_rfl))
  f231 := Tryd.func39.trans (congrArg some (by kernel_rfl))
  f232 := Tryd.func40.trans (congrArg some (by kernel_rfl))
  f233 := Tryd.func42.trans (congrArg some (by kernel_rfl))
  f234 := Tryd.func43.trans (congrArg some (by kernel_rfl))
  f235 := Tryd.func44.trans (congrArg some (by kernel_rfl))
  f236 := Tryd.func45.trans (congrArg some (by kernel_rfl))
  f260 := Tryd.func67.trans (congrArg some (by kernel_rfl))
  f266 := Tryd.func76.trans (congrArg some (by kernel_rfl))
  f271 := Tryd.func60.trans (congrArg some (by kernel_rfl))
  t0 := Tryd.underlying0
  a0 := Tryd.isAgg0
  z0 := Tryd.sizeOf0
  v0 := Tryd.zeroValue0
  t3 := Tryd.underlying3
  a3 := Tryd.isAgg3
  z3 := Tryd.sizeOf3
  v3 := Tryd.zeroValue3
  t4 := Tryd.underlying4
  a4 := Tryd.isAgg4
  z4 := Tryd.sizeOf4
  v4 := Tryd.zeroValue4
  t5 := Tryd.underlying5
  a5 := Tryd.isAgg5
  z5 := Tryd.sizeOf5
  v5 := Tryd.zeroValue5
  t9 := Tryd.underlying9
  a9 := Tryd.isAgg9
  z9 := Tryd.sizeOf9
  v9 := Tryd.zeroValue9
  t21 := Tryd.underlying21
  a21 := Tryd.isAgg21
  z21 := Tryd.sizeOf21
  v21 := Tryd.zeroValue21
  t46 := Tryd.underlying65
  a46 := Tryd.isAgg65
  z46 := Tryd.sizeOf65
  v46 := Tryd.zeroValue65
  t105 := Tryd.underlying85
  a105 := Tryd.isAgg85
  z105 := Tryd.sizeOf85
  v105 := Tryd.zeroValue85
  t116 := Tryd.underlying68
  a116 := Tryd.isAgg68
  z116 := Tryd.sizeOf68
  t117 := Tryd.underlying69
  a117 := Tryd.isAgg69
  z117 := Tryd.sizeOf69
  v117 := Tryd.zeroValue69
  t119 := Tryd.underlying98
  a119 := Tryd.isAgg98
  z119 := Tryd.sizeOf98
  t124 := Tryd.underlying72
  a124 := Tryd.isAgg72
  z124 := Tryd.sizeOf72
  v124 := Tryd.zeroValue72
  t138 := Tryd.underlying100
  a138 := Tryd.isAgg100
  z138 := Tryd.sizeOf100
  v138 := Tryd.zeroValue100
  t139 := Tryd.underlying101
  a139 := Tryd.isAgg101
  z139 := Tryd.sizeOf101
  v139 := Tryd.zeroValue101
  g3 := by kernel_rfl
  g4 := by kernel_rfl }
def Tryd.lays190_ren : Go.Shelf.Ren := ⟨fun | 190 => 32 | 125 => 38 | 258 => 37 | 128 => 55 | 129 => 56 | 302 => 46 | 303 => 47 | 304 => 48 | 305 => 49 | 306 => 50 | 307 => 51 | 308 => 52 | 309 => 53 | 310 => 54 | 333 => 61 | 329 => 62 | 330 => 63 | 334 => 64 | 335 => 65 | 336 => 66 | 344 => 70 | n => n, fun | 31 => 45 | 9 => 9 | 3 => 3 | 46 => 65 | 0 => 0 | 51 => 82 | 53 => 84 | 4 => 4 | 183 => 75 | 182 => 74 | 131 => 41 | 5 => 5 | 218 => 88 | 222 => 92 | 228 => 95 | 229 => 96 | n => n, fun | n => n⟩
theorem Tryd.lays190 : Go.Proofs.Lays.n190 Tryd.prog Tryd.lays190_ren := {
  mixed := by kernel_rfl
  f125 := Tryd.func38.trans (congrArg some (by kernel_rfl))
  f128 := Tryd.func55.trans (congrArg some (by kernel_rfl))
  f129 := Tryd.func56.trans (congrArg some (by kernel_rfl))
  f190 := Tryd.func32.trans (congrArg some (by kernel_rfl))
  f258 := Tryd.func37.trans (congrArg some (by kernel_rfl))
  f302 := Tryd.func46.trans (congrArg some (by kernel_rfl))
  f303 := Tryd.func47.trans (congrArg some (by kernel_rfl))
  f304 := Tryd.func48.trans (congrArg some (by kernel_rfl))
  f305 := Tryd.func49.trans (congrArg some (by kernel_rfl))
  f306 := Tryd.func50.trans (congrArg some (by kernel_rfl))
  f307 := Tryd.func51.trans (congrArg some (by kernel_rfl))
  f308 := Tryd.func52.trans (congrArg some (by kernel_rfl))
  f309 := Tryd.func53.trans (congrArg some (by kernel_rfl))
  f310 := Tryd.func54.trans (congrArg some (by kernel_rfl))
  f329 := Tryd.func62.trans (congrArg some (by kernel_rfl))
  f330 := Tryd.func63.trans (congrArg some (by kernel_rfl))
  f333 := Tryd.func61.trans (congrArg some (by kernel_rfl))
  f334 := Tryd.func64.trans (congrArg some (by kernel_rfl))
  f335 := Tryd.func65.trans (congrArg some (by kernel_rfl))
  f336 := Tryd.func66.trans (congrArg some (by kernel_rfl))
  f344 := Tryd.func70.trans (congrArg some (by kernel_rfl))
  t0 := Tryd.underlying0
  a0 := Tryd.isAgg0
  z0 := Tryd.sizeOf0
  v0 := Tryd.zeroValue0
  t3 := Tryd.underlying3
  a3 := Tryd.isAgg3
  z3 := Tryd.sizeOf3
  v3 := Tryd.zeroValue3
  t4 := Tryd.underlying4
  a4 := Tryd.isAgg4
  z4 := Tryd.sizeOf4
  v4 := Tryd.zeroValue4
  t5 := Tryd.underlying5
  a5 := Tryd.isAgg5
  z5 := Tryd.sizeOf5
  v5 := Tryd.zeroValue5
  t9 := Tryd.underlying9
  a9 := Tryd.isAgg9
  z9 := Tryd.sizeOf9
  v9 := Tryd.zeroValue9
  t31 := Tryd.underlying45
  a31 := Tryd.isAgg45
  z31 := Tryd.sizeOf45
  v31 := Tryd.zeroValue45
  t46 := Tryd.underlying65
  a46 := Tryd.isAgg65
  z46 := Tryd.sizeOf65
  v46 := Tryd.zeroValue65
  t51 := Tryd.underlying82
  a51 := Tryd.isAgg82
  z51 := Tryd.sizeOf82
  v51 := Tryd.zeroValue82
  t53 := Tryd.underlying84
  a53 := Tryd.isAgg84
  z53 := Tryd.sizeOf84
  v53 := Tryd.zeroValue84
  t131 := Tryd.underlying41
  a131 := Tryd.isAgg41
  z131 := Tryd.sizeOf41
  v131 := Tryd.zeroValue41
  t182 := Tryd.underlying74
  a182 := Tryd.isAgg74
  z182 := Tryd.sizeOf74
  v182 := Tryd.zeroValue74
  t183 := Tryd.underlying75
  a183 := Tryd.isAgg75
  z183 := Tryd.sizeOf75
  v183 := Tryd.zeroValue75
  t218 := Tryd.underlying88
  a218 := Tryd.isAgg88
  z218 := Tryd.sizeOf88
  v218 := Tryd.zeroValue88
  t222 := Tryd.underlying92
  a222 := Tryd.isAgg92
  z222 := Tryd.sizeOf92
  v222 := Tryd.zeroValue92
  t228 := Tryd.underlying95
  a228 := Tryd.isAgg95
  z228 := Tryd.sizeOf95
  v228 := Tryd.zeroValue95
  t229 := Tryd.underlying96
  a229 := Tryd.isAgg96
  z229 := Tryd.sizeOf96
  v229 := Tryd.zeroValue96 }
open Go.Sort Go.RowKit in
theorem Tryd.slices_Sort_string (blk off cap : Nat) (ss : List (List UInt8)) (w : World) (hH : Holds encStr w blk off ss.toArray) (hblk : blk < w.heap.size) (hsz : ss.length < 4611686018427387904) :
    Calls Tryd.prog 32 #[.slice (some ⟨blk, off, none⟩) ss.length cap] w fun e w' =>
      e = .returned (.tuple #[]) ∧ ∃ n os, w' = grow (putRow encStr (Sort.ahead w n) blk off (ss.mergeSort fun x y => decide (x ≤ y)).toArray) os := Any.slices_Sort_string Tryd.lays190 blk off cap ss w hH hblk hsz
open Go.RowKit Go.Sort in
/-- .. and plain. (LAID: no walk: one application.) -/
theorem Tryd.slices_Sort_string_none (p : Option Addr) (cap : Nat) (w : World) :
    Calls Tryd.prog 32 #[.slice p 0 cap] w fun e w' => e = .returned (.tuple #[]) ∧ w' = w := Any.slices_Sort_string_none Tryd.lays190 p cap w
def Tryd.laysnb115_ren : Go.Shelf.Ren := ⟨fun | 115 => 26 | n => n, fun | 37 => 24 | 4 => 4 | 9 => 9 | 5 => 5 | n => n, fun | n => n⟩
theorem Tryd.laysnb115 : Go.Proofs.Lays.nb115 Tryd.prog Tryd.laysnb115_ren := {
  mixed := by kernel_rfl
  f115 := Tryd.func26.trans (congrArg some (by kernel_rfl))
  t4 := Tryd.underlying4
  a4 := Tryd.isAgg4
  z4 := Tryd.sizeOf4
  v4 := Tryd.zeroValue4
  t9 := Tryd.underlying9
  a9 := Tryd.isAgg9
  z9 := Tryd.sizeOf9
  v9 := Tryd.zeroValue9
  t37 := Tryd.underlying24
  a37 := Tryd.isAgg24
  z37 := Tryd.sizeOf24
  v37 := Tryd.zeroValue24
  t5 := Tryd.underlying5
  a5 := Tryd.isAgg5
  z5 := Tryd.sizeOf5
  v5 := Tryd.zeroValue5 }
/-- bytes.Equal: WHOLE. (LAID: no walk: one application.) -/
theorem Tryd.bytes_Equal_all (p1 p2 : Option Addr) (n c m d : Nat) (xs ys : List Int) (w : World) (hx : xs.length = n) (hy : ys.length = m) (h1 : Lib.BytesIn w p1 n xs) (h2 : Lib.BytesIn w p2 m ys) :
    Calls Tryd.prog 26 #[.slice p1 n c, .slice p2 m d] w fun e w' => e = .returned (.bool (Lib.bytesOf xs == Lib.bytesOf ys)) ∧ w' = w := Any.bytes_Equal_all Tryd.laysnb115 p1 p2 n c m d xs ys w hx hy h1 h2
end Go.Proofs
