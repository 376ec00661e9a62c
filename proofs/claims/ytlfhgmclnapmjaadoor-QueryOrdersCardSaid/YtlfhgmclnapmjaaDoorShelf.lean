/- strings.Builder at this translation: the contracts of the library of proofs laid at its numbers, in plain words. No conditions. -/
import Derived.Shelf.Strings.Builder1
import Derived.Shelf.Strings.BuilderF
import Derived.Shelf.Strings.BuilderK
import Derived.Shelf.Strings.BuilderRune
import Derived.Test.YtlfhgmclnapmjaaDoorProg
namespace Go.Proofs.YtlfhgmclnapmjaaDoor
open Go.Shelf
def bren : Go.Shelf.Ren := ⟨fun | 167 => 59 | 169 => 63 | 240 => 81 | 276 => 100 | 168 => 60 | 242 => 82 | 278 => 101 | 0 => 0 | 1 => 1 | 2 => 2 | 99 => 33 | 119 => 83 | 125 => 73 | 128 => 97 | 129 => 98 | 190 => 45 | 194 => 46 | 196 => 102 | 197 => 99 | 206 => 65 | 258 => 72 | 259 => 112 | 260 => 111 | 302 => 88 | 303 => 89 | 304 => 90 | 305 => 91 | 306 => 92 | 307 => 93 | 308 => 94 | 309 => 95 | 310 => 96 | 329 => 106 | 330 => 107 | 333 => 105 | 334 => 108 | 335 => 109 | 336 => 110 | 344 => 113 | 347 => 114 | 348 => 115 | 349 => 116 | 350 => 117 | 351 => 118 | 352 => 119 | 353 => 120 | 354 => 121 | 355 => 122 | 356 => 123 | 357 => 124 | 358 => 125 | 359 => 126 | 360 => 127 | 361 => 128 | 362 => 129 | 366 => 130 | 367 => 136 | n => n, fun | 0 => 0 | 3 => 3 | 4 => 4 | 5 => 5 | 9 => 9 | 20 => 20 | 21 => 21 | 37 => 64 | 70 => 67 | 72 => 69 | 75 => 74 | 80 => 79 | 127 => 95 | 164 => 110 | 17 => 105 | 22 => 105 | 1 => 1 | 2 => 2 | 6 => 6 | 7 => 7 | 8 => 8 | 10 => 10 | 11 => 11 | 12 => 12 | 13 => 13 | 14 => 14 | 15 => 15 | 16 => 16 | 18 => 18 | 19 => 19 | 31 => 41 | 40 => 94 | 46 => 88 | 47 => 87 | 51 => 105 | 52 => 104 | 53 => 107 | 54 => 106 | 68 => 44 | 69 => 46 | 71 => 68 | 74 => 73 | 76 => 76 | 78 => 75 | 79 => 77 | 81 => 134 | 83 => 65 | 100 => 58 | 101 => 40 | 102 => 59 | 104 => 47 | 105 => 108 | 106 => 109 | 111 => 89 | 112 => 92 | 114 => 63 | 119 => 123 | 126 => 93 | 131 => 102 | 135 => 86 | 136 => 122 | 137 => 124 | 138 => 125 | 139 => 126 | 165 => 111 | 182 => 97 | 183 => 98 | 188 => 96 | 189 => 99 | 190 => 100 | 191 => 101 | 192 => 103 | 218 => 116 | 219 => 117 | 220 => 118 | 222 => 120 | 224 => 119 | 225 => 121 | 228 => 127 | 229 => 38 | 231 => 128 | 238 => 129 | 239 => 130 | 240 => 131 | 241 => 132 | 242 => 133 | 243 => 135 | 244 => 136 | 245 => 137 | 246 => 138 | 247 => 139 | 248 => 140 | 249 => 141 | n => n, fun | n => n⟩
theorem lays240 : Go.Proofs.Lays.n240 Tryd.prog bren := {
  mixed := by kernel_rfl
  f240 := Tryd.func81.trans (congrArg some (by kernel_rfl))
  f276 := Tryd.func100.trans (congrArg some (by kernel_rfl))
  t0 := Tryd.underlying0
  a0 := Tryd.isAgg0
  z0 := Tryd.sizeOf0
  v0 := Tryd.zeroValue0
  t4 := Tryd.underlying4
  a4 := Tryd.isAgg4
  z4 := Tryd.sizeOf4
  v4 := Tryd.zeroValue4
  t9 := Tryd.underlying9
  a9 := Tryd.isAgg9
  z9 := Tryd.sizeOf9
  v9 := Tryd.zeroValue9
  t20 := Tryd.underlying20
  a20 := Tryd.isAgg20
  z20 := Tryd.sizeOf20
  v20 := Tryd.zeroValue20
  t70 := Tryd.underlying67
  a70 := Tryd.isAgg67
  z70 := Tryd.sizeOf67
  v70 := Tryd.zeroValue67
  t72 := Tryd.underlying69
  a72 := Tryd.isAgg69
  z72 := Tryd.sizeOf69
  v72 := Tryd.zeroValue69
  t164 := Tryd.underlying110
  a164 := Tryd.isAgg110
  z164 := Tryd.sizeOf110
  v164 := Tryd.zeroValue110 }
theorem lays167 : Go.Proofs.Lays.n167 Tryd.prog bren := {
  mixed := by kernel_rfl
  f167 := Tryd.func59.trans (congrArg some (by kernel_rfl))
  f240 := Tryd.func81.trans (congrArg some (by kernel_rfl))
  f276 := Tryd.func100.trans (congrArg some (by kernel_rfl))
  t0 := Tryd.underlying0
  a0 := Tryd.isAgg0
  z0 := Tryd.sizeOf0
  v0 := Tryd.zeroValue0
  t4 := Tryd.underlying4
  a4 := Tryd.isAgg4
  z4 := Tryd.sizeOf4
  v4 := Tryd.zeroValue4
  t5 := Tryd.underlying5
  a5 := Tryd.isAgg5
  z5 := Tryd.sizeOf5
  v5 := Tryd.zeroValue5
  t9 := Tryd.underlying9
  a9 := Tryd.isAgg9
  z9 := Tryd.sizeOf9
  v9 := Tryd.zeroValue9
  t20 := Tryd.underlying20
  a20 := Tryd.isAgg20
  z20 := Tryd.sizeOf20
  v20 := Tryd.zeroValue20
  t37 := Tryd.underlying64
  a37 := Tryd.isAgg64
  z37 := Tryd.sizeOf64
  v37 := Tryd.zeroValue64
  t70 := Tryd.underlying67
  a70 := Tryd.isAgg67
  z70 := Tryd.sizeOf67
  v70 := Tryd.zeroValue67
  t72 := Tryd.underlying69
  a72 := Tryd.isAgg69
  z72 := Tryd.sizeOf69
  v72 := Tryd.zeroValue69
  t75 := Tryd.underlying74
  a75 := Tryd.isAgg74
  z75 := Tryd.sizeOf74
  v75 := Tryd.zeroValue74
  t164 := Tryd.underlying110
  a164 := Tryd.isAgg110
  z164 := Tryd.sizeOf110
  v164 := Tryd.zeroValue110 }
theorem lays169 : Go.Proofs.Lays.n169 Tryd.prog bren := {
  mixed := by kernel_rfl
  f169 := Tryd.func63.trans (congrArg some (by kernel_rfl))
  t0 := Tryd.underlying0
  a0 := Tryd.isAgg0
  z0 := Tryd.sizeOf0
  v0 := Tryd.zeroValue0
  t3 := Tryd.underlying3
  a3 := Tryd.isAgg3
  z3 := Tryd.sizeOf3
  v3 := Tryd.zeroValue3
  t9 := Tryd.underlying9
  a9 := Tryd.isAgg9
  z9 := Tryd.sizeOf9
  v9 := Tryd.zeroValue9
  t37 := Tryd.underlying64
  a37 := Tryd.isAgg64
  z37 := Tryd.sizeOf64
  v37 := Tryd.zeroValue64
  t70 := Tryd.underlying67
  a70 := Tryd.isAgg67
  z70 := Tryd.sizeOf67
  v70 := Tryd.zeroValue67
  t72 := Tryd.underlying69
  a72 := Tryd.isAgg69
  z72 := Tryd.sizeOf69
  v72 := Tryd.zeroValue69
  t127 := Tryd.underlying95
  a127 := Tryd.isAgg95
  z127 := Tryd.sizeOf95
  v127 := Tryd.zeroValue95 }
theorem lays168 : Go.Proofs.Lays.n168 Tryd.prog bren := {
  mixed := by kernel_rfl
  f168 := Tryd.func60.trans (congrArg some (by kernel_rfl))
  f240 := Tryd.func81.trans (congrArg some (by kernel_rfl))
  f242 := Tryd.func82.trans (congrArg some (by kernel_rfl))
  f276 := Tryd.func100.trans (congrArg some (by kernel_rfl))
  f278 := Tryd.func101.trans (congrArg some (by kernel_rfl))
  t0 := Tryd.underlying0
  a0 := Tryd.isAgg0
  z0 := Tryd.sizeOf0
  v0 := Tryd.zeroValue0
  t3 := Tryd.underlying3
  a3 := Tryd.isAgg3
  z3 := Tryd.sizeOf3
  v3 := Tryd.zeroValue3
  t4 := Tryd.underlying4
  a4 := Tryd.isAgg4
  z4 := Tryd.sizeOf4
  v4 := Tryd.zeroValue4
  t5 := Tryd.underlying5
  a5 := Tryd.isAgg5
  z5 := Tryd.sizeOf5
  v5 := Tryd.zeroValue5
  t9 := Tryd.underlying9
  a9 := Tryd.isAgg9
  z9 := Tryd.sizeOf9
  v9 := Tryd.zeroValue9
  t20 := Tryd.underlying20
  a20 := Tryd.isAgg20
  z20 := Tryd.sizeOf20
  v20 := Tryd.zeroValue20
  t21 := Tryd.underlying21
  a21 := Tryd.isAgg21
  z21 := Tryd.sizeOf21
  v21 := Tryd.zeroValue21
  t37 := Tryd.underlying64
  a37 := Tryd.isAgg64
  z37 := Tryd.sizeOf64
  v37 := Tryd.zeroValue64
  t46 := Tryd.underlying88
  a46 := Tryd.isAgg88
  z46 := Tryd.sizeOf88
  v46 := Tryd.zeroValue88
  t51 := Tryd.underlying105
  a51 := Tryd.isAgg105
  z51 := Tryd.sizeOf105
  v51 := Tryd.zeroValue105
  t70 := Tryd.underlying67
  a70 := Tryd.isAgg67
  z70 := Tryd.sizeOf67
  v70 := Tryd.zeroValue67
  t72 := Tryd.underlying69
  a72 := Tryd.isAgg69
  z72 := Tryd.sizeOf69
  v72 := Tryd.zeroValue69
  t75 := Tryd.underlying74
  a75 := Tryd.isAgg74
  z75 := Tryd.sizeOf74
  v75 := Tryd.zeroValue74
  t164 := Tryd.underlying110
  a164 := Tryd.isAgg110
  z164 := Tryd.sizeOf110
  v164 := Tryd.zeroValue110 }
theorem bX72 : Builder.X72 Tryd.prog bren := { sizeBuilder := by kernel_rfl, liesBuilder := by kernel_rfl }
theorem bExtra : Builder.Extra Tryd.prog bren := { sizeBuilder := by kernel_rfl, liesBuilder := by kernel_rfl, t5 := Tryd.underlying5, a5 := Tryd.isAgg5, z5 := Tryd.sizeOf5, v5 := Tryd.zeroValue5, infoByte := by kernel_rfl, cellsByte := by kernel_rfl, sizeByte := by kernel_rfl, neB5 := by decide }
open Go.RowKit
/-- WriteByte. -/
theorem b_writeByte (B b : Nat) (bs : List Value) (c : Int) (w : World) (h : Lib.IsBuilderF 69 5 B b bs w) (hlen : bs.length + 1 ≤ 140737488355328) (hBw : B ≤ w.heap.size) :
    Calls Tryd.prog 59 #[.pointer (some ⟨b, 0, none⟩), .int .u8 c] w fun e w' => e = .returned .nilIface ∧ (Lib.BuilderAtF 69 5 B b (.pointer (some ⟨b, 0, none⟩)) (bs ++ [.int .u8 c]) w' ∧ Below B w w' ∧ Lib.OthersKept 5 (some b) w w') := Any.Builder_WriteByte_k lays167 bExtra B b bs c w h hlen hBw
/-- String. -/
theorem b_string (B b : Nat) (l : List UInt8) (w : World) (h : Lib.IsBuilderF 69 5 B b (Lib.byteCells l) w) (hBw : B ≤ w.heap.size) :
    Calls Tryd.prog 63 #[.pointer (some ⟨b, 0, none⟩)] w fun e w' => e = .returned (.string ⟨l.toArray⟩) ∧ (Lib.IsBuilderF 69 5 B b (Lib.byteCells l) w' ∧ Below B w w' ∧ Lib.OthersKept 5 (some b) w w') := Any.Builder_String_any_k lays169 bExtra B b l w h hBw
/-- WriteRune. -/
theorem b_writeRune (B b : Nat) (bs : List Value) (r : Int) (hr0 : -2147483648 ≤ r) (hr1 : r ≤ 2147483647) (w : World) (h : Lib.IsBuilderF 69 5 B b bs w) (hlen : bs.length + 4 ≤ 140737488355328) (hBw : B ≤ w.heap.size) :
    Calls Tryd.prog 60 #[.pointer (some ⟨b, 0, none⟩), .int .i32 r] w fun e w' => e = .returned (.tuple #[.int .i64 (Lib.runeCells r).length, .nilIface]) ∧ (Lib.BuilderAtF 69 5 B b (.pointer (some ⟨b, 0, none⟩)) (bs ++ Lib.runeCells r) w' ∧ Below B w w' ∧ Lib.OthersKept 5 (some b) w w') := Any.Builder_WriteRune_k lays168 bExtra B b bs r hr0 hr1 w h hlen hBw
end Go.Proofs.YtlfhgmclnapmjaaDoor
