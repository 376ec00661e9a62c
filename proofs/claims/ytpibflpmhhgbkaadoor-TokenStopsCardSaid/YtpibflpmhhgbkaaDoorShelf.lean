/- strings.Builder at this translation: the contracts of the library of proofs laid at its numbers, in plain words. No conditions. -/
import Derived.Shelf.Strings.Builder1
import Derived.Shelf.Strings.BuilderF
import Derived.Shelf.Strings.BuilderK
import Derived.Shelf.Strings.BuilderRune
import Derived.Test.YtpibflpmhhgbkaaDoorProg
namespace Go.Proofs.YtpibflpmhhgbkaaDoor
open Go.Shelf
def bren : Go.Shelf.Ren := ⟨fun | 167 => 26 | 169 => 30 | 240 => 43 | 276 => 61 | 168 => 27 | 242 => 44 | 278 => 62 | 0 => 0 | 1 => 1 | 2 => 2 | 119 => 45 | 125 => 40 | 128 => 58 | 129 => 59 | 190 => 23 | 194 => 24 | 197 => 60 | 258 => 39 | 260 => 69 | 302 => 49 | 303 => 50 | 304 => 51 | 305 => 52 | 306 => 53 | 307 => 54 | 308 => 55 | 309 => 56 | 310 => 57 | 329 => 64 | 330 => 65 | 333 => 63 | 334 => 66 | 335 => 67 | 336 => 68 | 344 => 70 | 347 => 71 | 348 => 72 | 349 => 73 | 350 => 74 | 351 => 75 | 352 => 76 | 353 => 77 | 354 => 78 | 355 => 79 | 356 => 80 | 357 => 81 | 358 => 82 | 359 => 83 | 360 => 84 | 361 => 85 | 362 => 86 | 366 => 87 | 367 => 93 | n => n, fun | 0 => 0 | 3 => 3 | 4 => 4 | 5 => 5 | 9 => 9 | 20 => 20 | 21 => 21 | 37 => 44 | 70 => 43 | 72 => 46 | 75 => 51 | 80 => 56 | 127 => 68 | 164 => 86 | 17 => 81 | 22 => 81 | 1 => 1 | 2 => 2 | 6 => 6 | 7 => 7 | 8 => 8 | 10 => 10 | 11 => 11 | 12 => 12 | 13 => 13 | 14 => 14 | 15 => 15 | 16 => 16 | 18 => 18 | 19 => 19 | 26 => 35 | 31 => 27 | 40 => 67 | 46 => 64 | 47 => 63 | 51 => 81 | 52 => 80 | 53 => 83 | 54 => 82 | 68 => 28 | 69 => 30 | 71 => 45 | 74 => 50 | 76 => 53 | 78 => 52 | 79 => 54 | 81 => 105 | 83 => 59 | 100 => 41 | 101 => 26 | 102 => 42 | 104 => 29 | 105 => 84 | 106 => 85 | 111 => 57 | 112 => 65 | 114 => 34 | 119 => 96 | 126 => 66 | 131 => 78 | 135 => 62 | 137 => 97 | 138 => 98 | 139 => 99 | 165 => 87 | 182 => 74 | 183 => 75 | 188 => 73 | 189 => 76 | 190 => 36 | 191 => 77 | 192 => 79 | 218 => 88 | 219 => 89 | 220 => 90 | 222 => 92 | 224 => 91 | 225 => 93 | 228 => 94 | 229 => 60 | 231 => 95 | 238 => 100 | 239 => 101 | 240 => 102 | 241 => 103 | 242 => 104 | 243 => 106 | 244 => 107 | 245 => 108 | 246 => 109 | 247 => 110 | 248 => 111 | 249 => 112 | n => n, fun | n => n⟩
theorem lays240 : Go.Proofs.Lays.n240 Tryd.prog bren := {
  mixed := by kernel_rfl
  f240 := Tryd.func43.trans (congrArg some (by kernel_rfl))
  f276 := Tryd.func61.trans (congrArg some (by kernel_rfl))
  t0 := Tryd.underlying0
  a0 := Tryd.isAgg0
  z0 := Tryd.sizeOf0
  v0 := Tryd.zeroValue0
  t4 := Tryd.underlying4
  a4 := Tryd.isAgg4
  z4 := Tryd.sizeOf4
  v4 := Tryd.zeroValue4
  t9 := Tryd.underlying9
  a9 := Tryd.isAgg9
  z9 := Tryd.sizeOf9
  v9 := Tryd.zeroValue9
  t20 := Tryd.underlying20
  a20 := Tryd.isAgg20
  z20 := Tryd.sizeOf20
  v20 := Tryd.zeroValue20
  t70 := Tryd.underlying43
  a70 := Tryd.isAgg43
  z70 := Tryd.sizeOf43
  v70 := Tryd.zeroValue43
  t72 := Tryd.underlying46
  a72 := Tryd.isAgg46
  z72 := Tryd.sizeOf46
  v72 := Tryd.zeroValue46
  t164 := Tryd.underlying86
  a164 := Tryd.isAgg86
  z164 := Tryd.sizeOf86
  v164 := Tryd.zeroValue86 }
theorem lays167 : Go.Proofs.Lays.n167 Tryd.prog bren := {
  mixed := by kernel_rfl
  f167 := Tryd.func26.trans (congrArg some (by kernel_rfl))
  f240 := Tryd.func43.trans (congrArg some (by kernel_rfl))
  f276 := Tryd.func61.trans (congrArg some (by kernel_rfl))
  t0 := Tryd.underlying0
  a0 := Tryd.isAgg0
  z0 := Tryd.sizeOf0
  v0 := Tryd.zeroValue0
  t4 := Tryd.underlying4
  a4 := Tryd.isAgg4
  z4 := Tryd.sizeOf4
  v4 := Tryd.zeroValue4
  t5 := Tryd.underlying5
  a5 := Tryd.isAgg5
  z5 := Tryd.sizeOf5
  v5 := Tryd.zeroValue5
  t9 := Tryd.underlying9
  a9 := Tryd.isAgg9
  z9 := Tryd.sizeOf9
  v9 := Tryd.zeroValue9
  t20 := Tryd.underlying20
  a20 := Tryd.isAgg20
  z20 := Tryd.sizeOf20
  v20 := Tryd.zeroValue20
  t37 := Tryd.underlying44
  a37 := Tryd.isAgg44
  z37 := Tryd.sizeOf44
  v37 := Tryd.zeroValue44
  t70 := Tryd.underlying43
  a70 := Tryd.isAgg43
  z70 := Tryd.sizeOf43
  v70 := Tryd.zeroValue43
  t72 := Tryd.underlying46
  a72 := Tryd.isAgg46
  z72 := Tryd.sizeOf46
  v72 := Tryd.zeroValue46
  t75 := Tryd.underlying51
  a75 := Tryd.isAgg51
  z75 := Tryd.sizeOf51
  v75 := Tryd.zeroValue51
  t164 := Tryd.underlying86
  a164 := Tryd.isAgg86
  z164 := Tryd.sizeOf86
  v164 := Tryd.zeroValue86 }
theorem lays169 : Go.Proofs.Lays.n169 Tryd.prog bren := {
  mixed := by kernel_rfl
  f169 := Tryd.func30.trans (congrArg some (by kernel_rfl))
  t0 := Tryd.underlying0
  a0 := Tryd.isAgg0
  z0 := Tryd.sizeOf0
  v0 := Tryd.zeroValue0
  t3 := Tryd.underlying3
  a3 := Tryd.isAgg3
  z3 := Tryd.sizeOf3
  v3 := Tryd.zeroValue3
  t9 := Tryd.underlying9
  a9 := Tryd.isAgg9
  z9 := Tryd.sizeOf9
  v9 := Tryd.zeroValue9
  t37 := Tryd.underlying44
  a37 := Tryd.isAgg44
  z37 := Tryd.sizeOf44
  v37 := Tryd.zeroValue44
  t70 := Tryd.underlying43
  a70 := Tryd.isAgg43
  z70 := Tryd.sizeOf43
  v70 := Tryd.zeroValue43
  t72 := Tryd.underlying46
  a72 := Tryd.isAgg46
  z72 := Tryd.sizeOf46
  v72 := Tryd.zeroValue46
  t127 := Tryd.underlying68
  a127 := Tryd.isAgg68
  z127 := Tryd.sizeOf68
  v127 := Tryd.zeroValue68 }
theorem lays168 : Go.Proofs.Lays.n168 Tryd.prog bren := {
  mixed := by kernel_rfl
  f168 := Tryd.func27.trans (congrArg some (by kernel_rfl))
  f240 := Tryd.func43.trans (congrArg some (by kernel_rfl))
  f242 := Tryd.func44.trans (congrArg some (by kernel_rfl))
  f276 := Tryd.func61.trans (congrArg some (by kernel_rfl))
  f278 := Tryd.func62.trans (congrArg some (by kernel_rfl))
  t0 := Tryd.underlying0
  a0 := Tryd.isAgg0
  z0 := Tryd.sizeOf0
  v0 := Tryd.zeroValue0
  t3 := Tryd.underlying3
  a3 := Tryd.isAgg3
  z3 := Tryd.sizeOf3
  v3 := Tryd.zeroValue3
  t4 := Tryd.underlying4
  a4 := Tryd.isAgg4
  z4 := Tryd.sizeOf4
  v4 := Tryd.zeroValue4
  t5 := Tryd.underlying5
  a5 := Tryd.isAgg5
  z5 := Tryd.sizeOf5
  v5 := Tryd.zeroValue5
  t9 := Tryd.underlying9
  a9 := Tryd.isAgg9
  z9 := Tryd.sizeOf9
  v9 := Tryd.zeroValue9
  t20 := Tryd.underlying20
  a20 := Tryd.isAgg20
  z20 := Tryd.sizeOf20
  v20 := Tryd.zeroValue20
  t21 := Tryd.underlying21
  a21 := Tryd.isAgg21
  z21 := Tryd.sizeOf21
  v21 := Tryd.zeroValue21
  t37 := Tryd.underlying44
  a37 := Tryd.isAgg44
  z37 := Tryd.sizeOf44
  v37 := Tryd.zeroValue44
  t46 := Tryd.underlying64
  a46 := Tryd.isAgg64
  z46 := Tryd.sizeOf64
  v46 := Tryd.zeroValue64
  t51 := Tryd.underlying81
  a51 := Tryd.isAgg81
  z51 := Tryd.sizeOf81
  v51 := Tryd.zeroValue81
  t70 := Tryd.underlying43
  a70 := Tryd.isAgg43
  z70 := Tryd.sizeOf43
  v70 := Tryd.zeroValue43
  t72 := Tryd.underlying46
  a72 := Tryd.isAgg46
  z72 := Tryd.sizeOf46
  v72 := Tryd.zeroValue46
  t75 := Tryd.underlying51
  a75 := Tryd.isAgg51
  z75 := Tryd.sizeOf51
  v75 := Tryd.zeroValue51
  t164 := Tryd.underlying86
  a164 := Tryd.isAgg86
  z164 := Tryd.sizeOf86
  v164 := Tryd.zeroValue86 }
theorem bX72 : Builder.X72 Tryd.prog bren := { sizeBuilder := by kernel_rfl, liesBuilder := by kernel_rfl }
theorem bExtra : Builder.Extra Tryd.prog bren := { sizeBuilder := by kernel_rfl, liesBuilder := by kernel_rfl, t5 := Tryd.underlying5, a5 := Tryd.isAgg5, z5 := Tryd.sizeOf5, v5 := Tryd.zeroValue5, infoByte := by kernel_rfl, cellsByte := by kernel_rfl, sizeByte := by kernel_rfl, neB5 := by decide }
open Go.RowKit
/-- WriteByte. -/
theorem b_writeByte (B b : Nat) (bs : List Value) (c : Int) (w : World) (h : Lib.IsBuilderF 46 5 B b bs w) (hlen : bs.length + 1 ≤ 140737488355328) (hBw : B ≤ w.heap.size) :
    Calls Tryd.prog 26 #[.pointer (some ⟨b, 0, none⟩), .int .u8 c] w fun e w' => e = .returned .nilIface ∧ (Lib.BuilderAtF 46 5 B b (.pointer (some ⟨b, 0, none⟩)) (bs ++ [.int .u8 c]) w' ∧ Below B w w' ∧ Lib.OthersKept 5 (some b) w w') := Any.Builder_WriteByte_k lays167 bExtra B b bs c w h hlen hBw
/-- String. -/
theorem b_string (B b : Nat) (l : List UInt8) (w : World) (h : Lib.IsBuilderF 46 5 B b (Lib.byteCells l) w) (hBw : B ≤ w.heap.size) :
    Calls Tryd.prog 30 #[.pointer (some ⟨b, 0, none⟩)] w fun e w' => e = .returned (.string ⟨l.toArray⟩) ∧ (Lib.IsBuilderF 46 5 B b (Lib.byteCells l) w' ∧ Below B w w' ∧ Lib.OthersKept 5 (some b) w w') := Any.Builder_String_any_k lays169 bExtra B b l w h hBw
/-- WriteRune. -/
theorem b_writeRune (B b : Nat) (bs : List Value) (r : Int) (hr0 : -2147483648 ≤ r) (hr1 : r ≤ 2147483647) (w : World) (h : Lib.IsBuilderF 46 5 B b bs w) (hlen : bs.length + 4 ≤ 140737488355328) (hBw : B ≤ w.heap.size) :
    Calls Tryd.prog 27 #[.pointer (some ⟨b, 0, none⟩), .int .i32 r] w fun e w' => e = .returned (.tuple #[.int .i64 (Lib.runeCells r).length, .nilIface]) ∧ (Lib.BuilderAtF 46 5 B b (.pointer (some ⟨b, 0, none⟩)) (bs ++ Lib.runeCells r) w' ∧ Below B w w' ∧ Lib.OthersKept 5 (some b) w w') := Any.Builder_WriteRune_k lays168 bExtra B b bs r hr0 hr1 w h hlen hBw
end Go.Proofs.YtpibflpmhhgbkaaDoor
