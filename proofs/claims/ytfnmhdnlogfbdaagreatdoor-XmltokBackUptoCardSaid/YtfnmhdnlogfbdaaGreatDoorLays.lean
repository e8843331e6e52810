/- The layings of strings.Builder's writers and of utf8.DecodeRune over this seat's translation (printed by wip/tools/mklays.py), and these contracts at the seat's numbers. -/
import Derived.Test.YtfnmhdnlogfbdaaGreatDoorProg
import Derived.Shelf.Lays
import Derived.Shelf.Lays7
import Derived.Shelf.Strings.BuilderK
import Derived.Shelf.Strings.BuilderRune
import Derived.Shelf.Spec.DecodeRune
import Derived.KernelRfl
namespace Go.Proofs
open Go.Shelf Go.RowKit
def Tryz.lx166_ren : Go.Shelf.Ren := ⟨fun | 166 => 85 | 240 => 109 | 276 => 129 | n => n, fun | 0 => 0 | 1 => 1 | 2 => 2 | 3 => 3 | 4 => 4 | 5 => 5 | 6 => 6 | 7 => 7 | 8 => 8 | 9 => 9 | 10 => 10 | 11 => 11 | 12 => 12 | 13 => 13 | 14 => 14 | 15 => 15 | 16 => 16 | 17 => 17 | 18 => 18 | 19 => 19 | 20 => 20 | 21 => 21 | 22 => 105 | 23 => 85 | 24 => 78 | 25 => 84 | 27 => 110 | 28 => 144 | 31 => 87 | 37 => 22 | 40 => 83 | 41 => 147 | 46 => 117 | 47 => 232 | 51 => 91 | 52 => 233 | 53 => 209 | 54 => 225 | 55 => 167 | 59 => 80 | 60 => 86 | 63 => 148 | 64 => 172 | 69 => 67 | 70 => 132 | 71 => 133 | 72 => 134 | 73 => 73 | 74 => 135 | 75 => 136 | 76 => 137 | 77 => 138 | 79 => 139 | 80 => 53 | 81 => 241 | 83 => 219 | 84 => 223 | 85 => 190 | 86 => 191 | 94 => 263 | 103 => 250 | 104 => 68 | 105 => 63 | 106 => 64 | 108 => 218 | 111 => 65 | 114 => 168 | 115 => 122 | 116 => 123 | 117 => 124 | 118 => 125 | 119 => 116 | 122 => 121 | 123 => 126 | 124 => 127 | 126 => 169 | 127 => 170 | 128 => 205 | 137 => 118 | 138 => 119 | 139 => 120 | 143 => 220 | 144 => 221 | 145 => 222 | 146 => 192 | 151 => 193 | 155 => 130 | 164 => 194 | 165 => 195 | 166 => 171 | 167 => 208 | 168 => 212 | 169 => 213 | 170 => 214 | 171 => 224 | 172 => 226 | 173 => 227 | 174 => 228 | 175 => 210 | 176 => 211 | 203 => 165 | 209 => 216 | 210 => 217 | 211 => 229 | 212 => 230 | 213 => 231 | 214 => 215 | 217 => 187 | 229 => 142 | 232 => 234 | 233 => 235 | 238 => 236 | 239 => 237 | 240 => 238 | 241 => 239 | 242 => 240 | 243 => 242 | 244 => 243 | 245 => 244 | 246 => 245 | 247 => 246 | 248 => 247 | 249 => 248 | n => n, fun  | n => n⟩
theorem Tryz.lx166 : Go.Proofs.Lays.n166 Tryz.prog Tryz.lx166_ren := {
  mixed := by kernel_rfl
  f166 := Tryz.func85.trans (congrArg some (by kernel_rfl))
  f240 := Tryz.func109.trans (congrArg some (by kernel_rfl))
  f276 := Tryz.func129.trans (congrArg some (by kernel_rfl))
  t0 := Tryz.underlying0
  a0 := Tryz.isAgg0
  z0 := Tryz.sizeOf0
  v0 := Tryz.zeroValue0
  t3 := Tryz.underlying3
  a3 := Tryz.isAgg3
  z3 := Tryz.sizeOf3
  v3 := Tryz.zeroValue3
  t4 := Tryz.underlying4
  a4 := Tryz.isAgg4
  z4 := Tryz.sizeOf4
  v4 := Tryz.zeroValue4
  t9 := Tryz.underlying9
  a9 := Tryz.isAgg9
  z9 := Tryz.sizeOf9
  v9 := Tryz.zeroValue9
  t20 := Tryz.underlying20
  a20 := Tryz.isAgg20
  z20 := Tryz.sizeOf20
  v20 := Tryz.zeroValue20
  t37 := Tryz.underlying22
  a37 := Tryz.isAgg22
  z37 := Tryz.sizeOf22
  v37 := Tryz.zeroValue22
  t70 := Tryz.underlying132
  a70 := Tryz.isAgg132
  z70 := Tryz.sizeOf132
  v70 := Tryz.zeroValue132
  t72 := Tryz.underlying134
  a72 := Tryz.isAgg134
  z72 := Tryz.sizeOf134
  v72 := Tryz.zeroValue134
  t75 := Tryz.underlying136
  a75 := Tryz.isAgg136
  z75 := Tryz.sizeOf136
  v75 := Tryz.zeroValue136
  t164 := Tryz.underlying194
  a164 := Tryz.isAgg194
  z164 := Tryz.sizeOf194
  v164 := Tryz.zeroValue194 }

theorem Tryz.lx166_extra : Builder.Extra Tryz.prog Tryz.lx166_ren := {
  sizeBuilder := by kernel_rfl
  liesBuilder := by kernel_rfl
  t5 := Tryz.underlying5
  a5 := Tryz.isAgg5
  z5 := Tryz.sizeOf5
  v5 := Tryz.zeroValue5
  infoByte := by kernel_rfl
  cellsByte := by kernel_rfl
  sizeByte := by kernel_rfl
  neB5 := by decide }

theorem Tryz.bWriteString (B b : Nat) (bs : List Value) (s : ByteArray) (w : World) (h : Lib.IsBuilderF 134 5 B b bs w) (hlen : bs.length + s.size ≤ 140737488355328) (hBw : B ≤ w.heap.size) :
    Calls Tryz.prog 85 #[.pointer (some ⟨b, 0, none⟩), .string s] w fun e w' => e = .returned (.tuple #[.int .i64 s.size, .nilIface]) ∧ (Lib.BuilderAtF 134 5 B b (.pointer (some ⟨b, 0, none⟩)) (bs ++ Lib.strCells s) w' ∧ Below B w w' ∧ Lib.OthersKept 5 (some b) w w') := Any.Builder_WriteString_k Tryz.lx166 Tryz.lx166_extra B b bs s w h hlen hBw

def Tryz.lx168_ren : Go.Shelf.Ren := ⟨fun | 168 => 86 | 240 => 109 | 242 => 110 | 276 => 129 | 278 => 130 | n => n, fun | 0 => 0 | 1 => 1 | 2 => 2 | 3 => 3 | 4 => 4 | 5 => 5 | 6 => 6 | 7 => 7 | 8 => 8 | 9 => 9 | 10 => 10 | 11 => 11 | 12 => 12 | 13 => 13 | 14 => 14 | 15 => 15 | 16 => 16 | 17 => 17 | 18 => 18 | 19 => 19 | 20 => 20 | 21 => 21 | 22 => 105 | 23 => 85 | 24 => 78 | 25 => 84 | 27 => 110 | 28 => 144 | 31 => 87 | 37 => 22 | 40 => 83 | 41 => 147 | 46 => 117 | 47 => 232 | 51 => 91 | 52 => 233 | 53 => 209 | 54 => 225 | 55 => 167 | 59 => 80 | 60 => 86 | 63 => 148 | 64 => 172 | 69 => 67 | 70 => 132 | 71 => 133 | 72 => 134 | 73 => 73 | 74 => 135 | 75 => 136 | 76 => 137 | 77 => 138 | 79 => 139 | 80 => 53 | 81 => 241 | 83 => 219 | 84 => 223 | 85 => 190 | 86 => 191 | 94 => 263 | 103 => 250 | 104 => 68 | 105 => 63 | 106 => 64 | 108 => 218 | 111 => 65 | 114 => 168 | 115 => 122 | 116 => 123 | 117 => 124 | 118 => 125 | 119 => 116 | 122 => 121 | 123 => 126 | 124 => 127 | 126 => 169 | 127 => 170 | 128 => 205 | 137 => 118 | 138 => 119 | 139 => 120 | 143 => 220 | 144 => 221 | 145 => 222 | 146 => 192 | 151 => 193 | 155 => 130 | 164 => 194 | 165 => 195 | 166 => 171 | 167 => 208 | 168 => 212 | 169 => 213 | 170 => 214 | 171 => 224 | 172 => 226 | 173 => 227 | 174 => 228 | 175 => 210 | 176 => 211 | 203 => 165 | 209 => 216 | 210 => 217 | 211 => 229 | 212 => 230 | 213 => 231 | 214 => 215 | 217 => 187 | 229 => 142 | 232 => 234 | 233 => 235 | 238 => 236 | 239 => 237 | 240 => 238 | 241 => 239 | 242 => 240 | 243 => 242 | 244 => 243 | 245 => 244 | 246 => 245 | 247 => 246 | 248 => 247 | 249 => 248 | n => n, fun  | n => n⟩
theorem Tryz.lx168 : Go.Proofs.Lays.n168 Tryz.prog Tryz.lx168_ren := {
  mixed := by kernel_rfl
  f168 := Tryz.func86.trans (congrArg some (by kernel_rfl))
  f240 := Tryz.func109.trans (congrArg some (by kernel_rfl))
  f242 := Tryz.func110.trans (congrArg some (by kernel_rfl))
  f276 := Tryz.func129.trans (congrArg some (by kernel_rfl))
  f278 := Tryz.func130.trans (congrArg some (by kernel_rfl))
  t0 := Tryz.underlying0
  a0 := Tryz.isAgg0
  z0 := Tryz.sizeOf0
  v0 := Tryz.zeroValue0
  t3 := Tryz.underlying3
  a3 := Tryz.isAgg3
  z3 := Tryz.sizeOf3
  v3 := Tryz.zeroValue3
  t4 := Tryz.underlying4
  a4 := Tryz.isAgg4
  z4 := Tryz.sizeOf4
  v4 := Tryz.zeroValue4
  t5 := Tryz.underlying5
  a5 := Tryz.isAgg5
  z5 := Tryz.sizeOf5
  v5 := Tryz.zeroValue5
  t9 := Tryz.underlying9
  a9 := Tryz.isAgg9
  z9 := Tryz.sizeOf9
  v9 := Tryz.zeroValue9
  t20 := Tryz.underlying20
  a20 := Tryz.isAgg20
  z20 := Tryz.sizeOf20
  v20 := Tryz.zeroValue20
  t21 := Tryz.underlying21
  a21 := Tryz.isAgg21
  z21 := Tryz.sizeOf21
  v21 := Tryz.zeroValue21
  t37 := Tryz.underlying22
  a37 := Tryz.isAgg22
  z37 := Tryz.sizeOf22
  v37 := Tryz.zeroValue22
  t46 := Tryz.underlying117
  a46 := Tryz.isAgg117
  z46 := Tryz.sizeOf117
  v46 := Tryz.zeroValue117
  t51 := Tryz.underlying91
  a51 := Tryz.isAgg91
  z51 := Tryz.sizeOf91
  v51 := Tryz.zeroValue91
  t70 := Tryz.underlying132
  a70 := Tryz.isAgg132
  z70 := Tryz.sizeOf132
  v70 := Tryz.zeroValue132
  t72 := Tryz.underlying134
  a72 := Tryz.isAgg134
  z72 := Tryz.sizeOf134
  v72 := Tryz.zeroValue134
  t75 := Tryz.underlying136
  a75 := Tryz.isAgg136
  z75 := Tryz.sizeOf136
  v75 := Tryz.zeroValue136
  t164 := Tryz.underlying194
  a164 := Tryz.isAgg194
  z164 := Tryz.sizeOf194
  v164 := Tryz.zeroValue194 }

theorem Tryz.lx168_extra : Builder.Extra Tryz.prog Tryz.lx168_ren := {
  sizeBuilder := by kernel_rfl
  liesBuilder := by kernel_rfl
  t5 := Tryz.underlying5
  a5 := Tryz.isAgg5
  z5 := Tryz.sizeOf5
  v5 := Tryz.zeroValue5
  infoByte := by kernel_rfl
  cellsByte := by kernel_rfl
  sizeByte := by kernel_rfl
  neB5 := by decide }

theorem Tryz.bWriteRune (B b : Nat) (bs : List Value) (r : Int) (hr0 : -2147483648 ≤ r) (hr1 : r ≤ 2147483647) (w : World) (h : Lib.IsBuilderF 134 5 B b bs w) (hlen : bs.length + 4 ≤ 140737488355328) (hBw : B ≤ w.heap.size) :
    Calls Tryz.prog 86 #[.pointer (some ⟨b, 0, none⟩), .int .i32 r] w fun e w' => e = .returned (.tuple #[.int .i64 (Lib.runeCells r).length, .nilIface]) ∧ (Lib.BuilderAtF 134 5 B b (.pointer (some ⟨b, 0, none⟩)) (bs ++ Lib.runeCells r) w' ∧ Below B w w' ∧ Lib.OthersKept 5 (some b) w w') := Any.Builder_WriteRune_k Tryz.lx168 Tryz.lx168_extra B b bs r hr0 hr1 w h hlen hBw

def Tryz.lx32_ren : Go.Shelf.Ren := ⟨fun | 32 => 122 | 49 => 141 | n => n, fun | 0 => 0 | 1 => 1 | 2 => 2 | 3 => 3 | 4 => 4 | 5 => 5 | 6 => 6 | 7 => 7 | 8 => 8 | 9 => 9 | 10 => 10 | 11 => 11 | 12 => 12 | 13 => 13 | 14 => 14 | 15 => 15 | 16 => 16 | 17 => 17 | 18 => 18 | 19 => 19 | 20 => 20 | 21 => 21 | 22 => 209 | 25 => 117 | 26 => 232 | 27 => 91 | 28 => 233 | 29 => 225 | 30 => 22 | 32 => 115 | 33 => 63 | 34 => 187 | 36 => 132 | 37 => 135 | 38 => 136 | 39 => 137 | 40 => 263 | 42 => 144 | 44 => 87 | 47 => 169 | 48 => 83 | 53 => 234 | 54 => 235 | 55 => 250 | 56 => 147 | 58 => 133 | 59 => 134 | 66 => 116 | 67 => 118 | 68 => 119 | 69 => 120 | 70 => 165 | 73 => 194 | 74 => 195 | 75 => 64 | 89 => 53 | 90 => 236 | 91 => 237 | 92 => 238 | 93 => 239 | 94 => 240 | 95 => 241 | 96 => 242 | 97 => 243 | 98 => 244 | 99 => 170 | 100 => 245 | 101 => 246 | 102 => 247 | 103 => 248 | n => n, fun | 2 => 0 | 3 => 1 | n => n⟩
theorem Tryz.lx32 : Go.Proofs.Lays7.n32 Tryz.prog Tryz.lx32_ren := {
  mixed := by kernel_rfl
  f32 := Tryz.func122.trans (congrArg some (by kernel_rfl))
  f49 := Tryz.func141.trans (congrArg some (by kernel_rfl))
  t0 := Tryz.underlying0
  a0 := Tryz.isAgg0
  z0 := Tryz.sizeOf0
  v0 := Tryz.zeroValue0
  i0 := by kernel_rfl
  t3 := Tryz.underlying3
  a3 := Tryz.isAgg3
  z3 := Tryz.sizeOf3
  v3 := Tryz.zeroValue3
  i3 := by kernel_rfl
  t4 := Tryz.underlying4
  a4 := Tryz.isAgg4
  z4 := Tryz.sizeOf4
  v4 := Tryz.zeroValue4
  i4 := by kernel_rfl
  t5 := Tryz.underlying5
  a5 := Tryz.isAgg5
  z5 := Tryz.sizeOf5
  v5 := Tryz.zeroValue5
  i5 := by kernel_rfl
  t21 := Tryz.underlying21
  a21 := Tryz.isAgg21
  z21 := Tryz.sizeOf21
  v21 := Tryz.zeroValue21
  i21 := by kernel_rfl
  t25 := Tryz.underlying117
  a25 := Tryz.isAgg117
  z25 := Tryz.sizeOf117
  v25 := Tryz.zeroValue117
  i25 := by kernel_rfl
  t30 := Tryz.underlying22
  a30 := Tryz.isAgg22
  z30 := Tryz.sizeOf22
  v30 := Tryz.zeroValue22
  i30 := by kernel_rfl
  t33 := Tryz.underlying63
  a33 := Tryz.isAgg63
  z33 := Tryz.sizeOf63
  v33 := Tryz.zeroValue63
  i33 := by kernel_rfl
  t66 := Tryz.underlying116
  a66 := Tryz.isAgg116
  z66 := Tryz.sizeOf116
  t68 := Tryz.underlying119
  a68 := Tryz.isAgg119
  z68 := Tryz.sizeOf119
  v68 := Tryz.zeroValue119
  i68 := by kernel_rfl
  t69 := Tryz.underlying120
  a69 := Tryz.isAgg120
  z69 := Tryz.sizeOf120
  v69 := Tryz.zeroValue120
  i69 := by kernel_rfl
  g2 := by kernel_rfl
  g3 := by kernel_rfl }

theorem Tryz.uDecodeRune (s : ByteArray) (b off cap : Nat) (w : World) (hT : Lib.Utf8Tabs 0 1 w)
    (hp : ∀ j, j < s.size → w.cell? ⟨b, off + j, none⟩ = some (.int .u8 (s.get! j).toNat)) :
    Calls Tryz.prog 122 #[.slice (some ⟨b, off, none⟩) s.size cap] w fun e w' => e = .returned (.tuple #[.int .i32 (Lib.decodeGo s).1, .int .i64 (Lib.decodeGo s).2]) ∧ Below w.heap.size w w' := Any7.utf8_DecodeRune Tryz.lx32 s b off cap w hT hp

end Go.Proofs
