/- The layings of strings.Builder's writers and of utf8.DecodeRune over this seat's translation (printed by wip/tools/mklays.py), and these contracts at the seat's numbers. -/
import Derived.Test.YtblhpkcdemefaaaGreatDoorProg
import Derived.Shelf.Lays
import Derived.Shelf.Lays7
import Derived.Shelf.Strings.BuilderK
import Derived.Shelf.Strings.BuilderRune
import Derived.Shelf.Spec.DecodeRune
import Derived.KernelRfl
namespace Go.Proofs
open Go.Shelf Go.RowKit
def Tryz.lx166_ren : Go.Shelf.Ren := ⟨fun | 166 => 96 | 240 => 137 | 276 => 168 | n => n, fun | 0 => 0 | 1 => 1 | 2 => 2 | 3 => 3 | 4 => 4 | 5 => 5 | 6 => 6 | 7 => 7 | 8 => 8 | 9 => 9 | 10 => 10 | 11 => 11 | 12 => 12 | 13 => 13 | 14 => 14 | 15 => 15 | 16 => 16 | 17 => 17 | 18 => 18 | 19 => 19 | 20 => 20 | 21 => 21 | 22 => 140 | 23 => 134 | 24 => 129 | 25 => 160 | 27 => 147 | 28 => 200 | 31 => 162 | 37 => 22 | 38 => 56 | 40 => 159 | 41 => 217 | 46 => 202 | 47 => 280 | 51 => 166 | 52 => 291 | 53 => 251 | 54 => 252 | 55 => 245 | 59 => 131 | 60 => 161 | 63 => 218 | 64 => 249 | 69 => 119 | 70 => 109 | 71 => 110 | 72 => 111 | 73 => 124 | 74 => 152 | 75 => 153 | 76 => 154 | 77 => 155 | 78 => 156 | 79 => 210 | 80 => 73 | 81 => 314 | 83 => 150 | 84 => 224 | 85 => 273 | 86 => 274 | 94 => 336 | 103 => 323 | 104 => 120 | 105 => 116 | 106 => 117 | 108 => 305 | 111 => 54 | 114 => 246 | 115 => 190 | 116 => 191 | 117 => 192 | 118 => 193 | 119 => 201 | 122 => 189 | 123 => 194 | 124 => 195 | 126 => 247 | 127 => 158 | 128 => 290 | 137 => 203 | 138 => 204 | 139 => 205 | 143 => 306 | 144 => 307 | 145 => 308 | 146 => 275 | 151 => 276 | 155 => 208 | 164 => 225 | 165 => 226 | 166 => 248 | 167 => 294 | 168 => 297 | 169 => 298 | 170 => 299 | 171 => 250 | 172 => 253 | 173 => 254 | 174 => 255 | 175 => 295 | 176 => 296 | 203 => 243 | 209 => 303 | 210 => 304 | 211 => 277 | 212 => 278 | 213 => 279 | 214 => 302 | 217 => 270 | 229 => 213 | 232 => 300 | 233 => 301 | 238 => 309 | 239 => 310 | 240 => 311 | 241 => 312 | 242 => 313 | 243 => 315 | 244 => 316 | 245 => 317 | 246 => 318 | 247 => 319 | 248 => 320 | 249 => 321 | n => n, fun  | n => n⟩
theorem Tryz.lx166 : Go.Proofs.Lays.n166 Tryz.prog Tryz.lx166_ren := {
  mixed := by kernel_rfl
  f166 := Tryz.func96.trans (congrArg some (by kernel_rfl))
  f240 := Tryz.func137.trans (congrArg some (by kernel_rfl))
  f276 := Tryz.func168.trans (congrArg some (by kernel_rfl))
  t0 := Tryz.underlying0
  a0 := Tryz.isAgg0
  z0 := Tryz.sizeOf0
  v0 := Tryz.zeroValue0
  t3 := Tryz.underlying3
  a3 := Tryz.isAgg3
  z3 := Tryz.sizeOf3
  v3 := Tryz.zeroValue3
  t4 := Tryz.underlying4
  a4 := Tryz.isAgg4
  z4 := Tryz.sizeOf4
  v4 := Tryz.zeroValue4
  t9 := Tryz.underlying9
  a9 := Tryz.isAgg9
  z9 := Tryz.sizeOf9
  v9 := Tryz.zeroValue9
  t20 := Tryz.underlying20
  a20 := Tryz.isAgg20
  z20 := Tryz.sizeOf20
  v20 := Tryz.zeroValue20
  t37 := Tryz.underlying22
  a37 := Tryz.isAgg22
  z37 := Tryz.sizeOf22
  v37 := Tryz.zeroValue22
  t70 := Tryz.underlying109
  a70 := Tryz.isAgg109
  z70 := Tryz.sizeOf109
  v70 := Tryz.zeroValue109
  t72 := Tryz.underlying111
  a72 := Tryz.isAgg111
  z72 := Tryz.sizeOf111
  v72 := Tryz.zeroValue111
  t75 := Tryz.underlying153
  a75 := Tryz.isAgg153
  z75 := Tryz.sizeOf153
  v75 := Tryz.zeroValue153
  t164 := Tryz.underlying225
  a164 := Tryz.isAgg225
  z164 := Tryz.sizeOf225
  v164 := Tryz.zeroValue225 }

theorem Tryz.lx166_extra : Builder.Extra Tryz.prog Tryz.lx166_ren := {
  sizeBuilder := by kernel_rfl
  liesBuilder := by kernel_rfl
  t5 := Tryz.underlying5
  a5 := Tryz.isAgg5
  z5 := Tryz.sizeOf5
  v5 := Tryz.zeroValue5
  infoByte := by kernel_rfl
  cellsByte := by kernel_rfl
  sizeByte := by kernel_rfl
  neB5 := by decide }

theorem Tryz.bWriteString (B b : Nat) (bs : List Value) (s : ByteArray) (w : World) (h : Lib.IsBuilderF 111 5 B b bs w) (hlen : bs.length + s.size ≤ 140737488355328) (hBw : B ≤ w.heap.size) :
    Calls Tryz.prog 96 #[.pointer (some ⟨b, 0, none⟩), .string s] w fun e w' => e = .returned (.tuple #[.int .i64 s.size, .nilIface]) ∧ (Lib.BuilderAtF 111 5 B b (.pointer (some ⟨b, 0, none⟩)) (bs ++ Lib.strCells s) w' ∧ Below B w w' ∧ Lib.OthersKept 5 (some b) w w') := Any.Builder_WriteString_k Tryz.lx166 Tryz.lx166_extra B b bs s w h hlen hBw

def Tryz.lx168_ren : Go.Shelf.Ren := ⟨fun | 168 => 151 | 240 => 137 | 242 => 182 | 276 => 168 | 278 => 207 | n => n, fun | 0 => 0 | 1 => 1 | 2 => 2 | 3 => 3 | 4 => 4 | 5 => 5 | 6 => 6 | 7 => 7 | 8 => 8 | 9 => 9 | 10 => 10 | 11 => 11 | 12 => 12 | 13 => 13 | 14 => 14 | 15 => 15 | 16 => 16 | 17 => 17 | 18 => 18 | 19 => 19 | 20 => 20 | 21 => 21 | 22 => 140 | 23 => 134 | 24 => 129 | 25 => 160 | 27 => 147 | 28 => 200 | 31 => 162 | 37 => 22 | 38 => 56 | 40 => 159 | 41 => 217 | 46 => 202 | 47 => 280 | 51 => 166 | 52 => 291 | 53 => 251 | 54 => 252 | 55 => 245 | 59 => 131 | 60 => 161 | 63 => 218 | 64 => 249 | 69 => 119 | 70 => 109 | 71 => 110 | 72 => 111 | 73 => 124 | 74 => 152 | 75 => 153 | 76 => 154 | 77 => 155 | 78 => 156 | 79 => 210 | 80 => 73 | 81 => 314 | 83 => 150 | 84 => 224 | 85 => 273 | 86 => 274 | 94 => 336 | 103 => 323 | 104 => 120 | 105 => 116 | 106 => 117 | 108 => 305 | 111 => 54 | 114 => 246 | 115 => 190 | 116 => 191 | 117 => 192 | 118 => 193 | 119 => 201 | 122 => 189 | 123 => 194 | 124 => 195 | 126 => 247 | 127 => 158 | 128 => 290 | 137 => 203 | 138 => 204 | 139 => 205 | 143 => 306 | 144 => 307 | 145 => 308 | 146 => 275 | 151 => 276 | 155 => 208 | 164 => 225 | 165 => 226 | 166 => 248 | 167 => 294 | 168 => 297 | 169 => 298 | 170 => 299 | 171 => 250 | 172 => 253 | 173 => 254 | 174 => 255 | 175 => 295 | 176 => 296 | 203 => 243 | 209 => 303 | 210 => 304 | 211 => 277 | 212 => 278 | 213 => 279 | 214 => 302 | 217 => 270 | 229 => 213 | 232 => 300 | 233 => 301 | 238 => 309 | 239 => 310 | 240 => 311 | 241 => 312 | 242 => 313 | 243 => 315 | 244 => 316 | 245 => 317 | 246 => 318 | 247 => 319 | 248 => 320 | 249 => 321 | n => n, fun  | n => n⟩
theorem Tryz.lx168 : Go.Proofs.Lays.n168 Tryz.prog Tryz.lx168_ren := {
  mixed := by kernel_rfl
  f168 := Tryz.func151.trans (congrArg some (by kernel_rfl))
  f240 := Tryz.func137.trans (congrArg some (by kernel_rfl))
  f242 := Tryz.func182.trans (congrArg some (by kernel_rfl))
  f276 := Tryz.func168.trans (congrArg some (by kernel_rfl))
  f278 := Tryz.func207.trans (congrArg some (by kernel_rfl))
  t0 := Tryz.underlying0
  a0 := Tryz.isAgg0
  z0 := Tryz.sizeOf0
  v0 := Tryz.zeroValue0
  t3 := Tryz.underlying3
  a3 := Tryz.isAgg3
  z3 := Tryz.sizeOf3
  v3 := Tryz.zeroValue3
  t4 := Tryz.underlying4
  a4 := Tryz.isAgg4
  z4 := Tryz.sizeOf4
  v4 := Tryz.zeroValue4
  t5 := Tryz.underlying5
  a5 := Tryz.isAgg5
  z5 := Tryz.sizeOf5
  v5 := Tryz.zeroValue5
  t9 := Tryz.underlying9
  a9 := Tryz.isAgg9
  z9 := Tryz.sizeOf9
  v9 := Tryz.zeroValue9
  t20 := Tryz.underlying20
  a20 := Tryz.isAgg20
  z20 := Tryz.sizeOf20
  v20 := Tryz.zeroValue20
  t21 := Tryz.underlying21
  a21 := Tryz.isAgg21
  z21 := Tryz.sizeOf21
  v21 := Tryz.zeroValue21
  t37 := Tryz.underlying22
  a37 := Tryz.isAgg22
  z37 := Tryz.sizeOf22
  v37 := Tryz.zeroValue22
  t46 := Tryz.underlying202
  a46 := Tryz.isAgg202
  z46 := Tryz.sizeOf202
  v46 := Tryz.zeroValue202
  t51 := Tryz.underlying166
  a51 := Tryz.isAgg166
  z51 := Tryz.sizeOf166
  v51 := Tryz.zeroValue166
  t70 := Tryz.underlying109
  a70 := Tryz.isAgg109
  z70 := Tryz.sizeOf109
  v70 := Tryz.zeroValue109
  t72 := Tryz.underlying111
  a72 := Tryz.isAgg111
  z72 := Tryz.sizeOf111
  v72 := Tryz.zeroValue111
  t75 := Tryz.underlying153
  a75 := Tryz.isAgg153
  z75 := Tryz.sizeOf153
  v75 := Tryz.zeroValue153
  t164 := Tryz.underlying225
  a164 := Tryz.isAgg225
  z164 := Tryz.sizeOf225
  v164 := Tryz.zeroValue225 }

theorem Tryz.lx168_extra : Builder.Extra Tryz.prog Tryz.lx168_ren := {
  sizeBuilder := by kernel_rfl
  liesBuilder := by kernel_rfl
  t5 := Tryz.underlying5
  a5 := Tryz.isAgg5
  z5 := Tryz.sizeOf5
  v5 := Tryz.zeroValue5
  infoByte := by kernel_rfl
  cellsByte := by kernel_rfl
  sizeByte := by kernel_rfl
  neB5 := by decide }

theorem Tryz.bWriteRune (B b : Nat) (bs : List Value) (r : Int) (hr0 : -2147483648 ≤ r) (hr1 : r ≤ 2147483647) (w : World) (h : Lib.IsBuilderF 111 5 B b bs w) (hlen : bs.length + 4 ≤ 140737488355328) (hBw : B ≤ w.heap.size) :
    Calls Tryz.prog 151 #[.pointer (some ⟨b, 0, none⟩), .int .i32 r] w fun e w' => e = .returned (.tuple #[.int .i64 (Lib.runeCells r).length, .nilIface]) ∧ (Lib.BuilderAtF 111 5 B b (.pointer (some ⟨b, 0, none⟩)) (bs ++ Lib.runeCells r) w' ∧ Below B w w' ∧ Lib.OthersKept 5 (some b) w w') := Any.Builder_WriteRune_k Tryz.lx168 Tryz.lx168_extra B b bs r hr0 hr1 w h hlen hBw

def Tryz.lx32_ren : Go.Shelf.Ren := ⟨fun | 32 => 200 | 49 => 224 | n => n, fun | 0 => 0 | 1 => 1 | 2 => 2 | 3 => 3 | 4 => 4 | 5 => 5 | 6 => 6 | 7 => 7 | 8 => 8 | 9 => 9 | 10 => 10 | 11 => 11 | 12 => 12 | 13 => 13 | 14 => 14 | 15 => 15 | 16 => 16 | 17 => 17 | 18 => 18 | 19 => 19 | 20 => 20 | 21 => 21 | 22 => 251 | 25 => 202 | 26 => 280 | 27 => 166 | 28 => 291 | 29 => 252 | 30 => 22 | 32 => 188 | 33 => 116 | 34 => 270 | 36 => 109 | 37 => 152 | 38 => 153 | 39 => 154 | 40 => 336 | 42 => 200 | 44 => 162 | 47 => 247 | 48 => 159 | 53 => 300 | 54 => 301 | 55 => 323 | 56 => 217 | 58 => 110 | 59 => 111 | 66 => 201 | 67 => 203 | 68 => 204 | 69 => 205 | 70 => 243 | 73 => 225 | 74 => 226 | 75 => 117 | 89 => 73 | 90 => 309 | 91 => 310 | 92 => 311 | 93 => 312 | 94 => 313 | 95 => 314 | 96 => 315 | 97 => 316 | 98 => 317 | 99 => 158 | 100 => 318 | 101 => 319 | 102 => 320 | 103 => 321 | n => n, fun | 2 => 0 | 3 => 1 | n => n⟩
theorem Tryz.lx32 : Go.Proofs.Lays7.n32 Tryz.prog Tryz.lx32_ren := {
  mixed := by kernel_rfl
  f32 := Tryz.func200.trans (congrArg some (by kernel_rfl))
  f49 := Tryz.func224.trans (congrArg some (by kernel_rfl))
  t0 := Tryz.underlying0
  a0 := Tryz.isAgg0
  z0 := Tryz.sizeOf0
  v0 := Tryz.zeroValue0
  i0 := by kernel_rfl
  t3 := Tryz.underlying3
  a3 := Tryz.isAgg3
  z3 := Tryz.sizeOf3
  v3 := Tryz.zeroValue3
  i3 := by kernel_rfl
  t4 := Tryz.underlying4
  a4 := Tryz.isAgg4
  z4 := Tryz.sizeOf4
  v4 := Tryz.zeroValue4
  i4 := by kernel_rfl
  t5 := Tryz.underlying5
  a5 := Tryz.isAgg5
  z5 := Tryz.sizeOf5
  v5 := Tryz.zeroValue5
  i5 := by kernel_rfl
  t21 := Tryz.underlying21
  a21 := Tryz.isAgg21
  z21 := Tryz.sizeOf21
  v21 := Tryz.zeroValue21
  i21 := by kernel_rfl
  t25 := Tryz.underlying202
  a25 := Tryz.isAgg202
  z25 := Tryz.sizeOf202
  v25 := Tryz.zeroValue202
  i25 := by kernel_rfl
  t30 := Tryz.underlying22
  a30 := Tryz.isAgg22
  z30 := Tryz.sizeOf22
  v30 := Tryz.zeroValue22
  i30 := by kernel_rfl
  t33 := Tryz.underlying116
  a33 := Tryz.isAgg116
  z33 := Tryz.sizeOf116
  v33 := Tryz.zeroValue116
  i33 := by kernel_rfl
  t66 := Tryz.underlying201
  a66 := Tryz.isAgg201
  z66 := Tryz.sizeOf201
  t68 := Tryz.underlying204
  a68 := Tryz.isAgg204
  z68 := Tryz.sizeOf204
  v68 := Tryz.zeroValue204
  i68 := by kernel_rfl
  t69 := Tryz.underlying205
  a69 := Tryz.isAgg205
  z69 := Tryz.sizeOf205
  v69 := Tryz.zeroValue205
  i69 := by kernel_rfl
  g2 := by kernel_rfl
  g3 := by kernel_rfl }

theorem Tryz.uDecodeRune (s : ByteArray) (b off cap : Nat) (w : World) (hT : Lib.Utf8Tabs 0 1 w)
    (hp : ∀ j, j < s.size → w.cell? ⟨b, off + j, none⟩ = some (.int .u8 (s.get! j).toNat)) :
    Calls Tryz.prog 200 #[.slice (some ⟨b, off, none⟩) s.size cap] w fun e w' => e = .returned (.tuple #[.int .i32 (Lib.decodeGo s).1, .int .i64 (Lib.decodeGo s).2]) ∧ Below w.heap.size w w' := Any7.utf8_DecodeRune Tryz.lx32 s b off cap w hT hp

end Go.Proofs
