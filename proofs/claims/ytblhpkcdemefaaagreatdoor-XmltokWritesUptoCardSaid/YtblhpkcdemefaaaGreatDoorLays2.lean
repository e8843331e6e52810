/- Layings of strings.TrimLeft, strings.IndexFunc and slices.ContainsFunc over this seat's translation (printed by wip/tools/mklays2.py), and these contracts at the seat's numbers. -/
import Derived.Test.YtblhpkcdemefaaaGreatDoorProg
import Derived.Shelf.Lays
import Derived.Shelf.Strings.SlTrimAscii
import Derived.Shelf.GgClosure.StringsRunes
import Derived.Shelf.SlicesQ.IndexFunc
import Derived.KernelRfl
namespace Go.Proofs
open Go.Shelf Go.RowKit
def Tryz.lx161_ren : Go.Shelf.Ren := ⟨fun | 119 => 101 | 137 => 208 | 151 => 159 | 152 => 187 | 161 => 103 | 197 => 56 | 217 => 178 | 224 => 180 | 225 => 179 | 227 => 124 | 228 => 158 | 231 => 122 | 233 => 125 | 235 => 127 | 260 => 100 | 266 => 205 | n => n, fun | 0 => 0 | 1 => 1 | 2 => 2 | 3 => 3 | 4 => 4 | 5 => 5 | 6 => 6 | 7 => 7 | 8 => 8 | 9 => 9 | 10 => 10 | 11 => 11 | 12 => 12 | 13 => 13 | 14 => 14 | 15 => 15 | 16 => 16 | 17 => 17 | 18 => 18 | 19 => 19 | 20 => 20 | 21 => 21 | 22 => 140 | 23 => 134 | 24 => 129 | 25 => 160 | 27 => 147 | 28 => 200 | 31 => 162 | 37 => 22 | 38 => 56 | 40 => 159 | 41 => 217 | 46 => 202 | 47 => 280 | 51 => 166 | 52 => 291 | 53 => 251 | 54 => 252 | 55 => 245 | 59 => 131 | 60 => 161 | 63 => 218 | 64 => 249 | 69 => 119 | 70 => 109 | 71 => 110 | 72 => 111 | 73 => 124 | 74 => 152 | 75 => 153 | 76 => 154 | 77 => 155 | 78 => 156 | 79 => 210 | 80 => 73 | 81 => 314 | 83 => 150 | 84 => 224 | 85 => 273 | 86 => 274 | 94 => 336 | 103 => 323 | 104 => 120 | 105 => 116 | 106 => 117 | 108 => 305 | 111 => 54 | 114 => 246 | 115 => 190 | 116 => 191 | 117 => 192 | 118 => 193 | 119 => 201 | 122 => 189 | 123 => 194 | 124 => 195 | 126 => 247 | 127 => 158 | 128 => 290 | 137 => 203 | 138 => 204 | 139 => 205 | 143 => 306 | 144 => 307 | 145 => 308 | 146 => 275 | 151 => 276 | 155 => 208 | 164 => 225 | 165 => 226 | 166 => 248 | 167 => 294 | 168 => 297 | 169 => 298 | 170 => 299 | 171 => 250 | 172 => 253 | 173 => 254 | 174 => 255 | 175 => 295 | 176 => 296 | 203 => 243 | 209 => 303 | 210 => 304 | 211 => 277 | 212 => 278 | 213 => 279 | 214 => 302 | 217 => 270 | 229 => 213 | 232 => 300 | 233 => 301 | 238 => 309 | 239 => 310 | 240 => 311 | 241 => 312 | 242 => 313 | 243 => 315 | 244 => 316 | 245 => 317 | 246 => 318 | 247 => 319 | 248 => 320 | 249 => 321 | n => n, fun | 3 => 0 | 4 => 1 | n => n⟩
theorem Tryz.lx161 : Go.Proofs.Lays.n161 Tryz.prog Tryz.lx161_ren := {
  mixed := by kernel_rfl
  f119 := Tryz.func101.trans (congrArg some (by kernel_rfl))
  f137 := Tryz.func208.trans (congrArg some (by kernel_rfl))
  f151 := Tryz.func159.trans (congrArg some (by kernel_rfl))
  f152 := Tryz.func187.trans (congrArg some (by kernel_rfl))
  f161 := Tryz.func103.trans (congrArg some (by kernel_rfl))
  f197 := Tryz.func56.trans (congrArg some (by kernel_rfl))
  f217 := Tryz.func178.trans (congrArg some (by kernel_rfl))
  f224 := Tryz.func180.trans (congrArg some (by kernel_rfl))
  f225 := Tryz.func179.trans (congrArg some (by kernel_rfl))
  f227 := Tryz.func124.trans (congrArg some (by kernel_rfl))
  f228 := Tryz.func158.trans (congrArg some (by kernel_rfl))
  f231 := Tryz.func122.trans (congrArg some (by kernel_rfl))
  f233 := Tryz.func125.trans (congrArg some (by kernel_rfl))
  f235 := Tryz.func127.trans (congrArg some (by kernel_rfl))
  f260 := Tryz.func100.trans (congrArg some (by kernel_rfl))
  f266 := Tryz.func205.trans (congrArg some (by kernel_rfl))
  t0 := Tryz.underlying0
  a0 := Tryz.isAgg0
  z0 := Tryz.sizeOf0
  v0 := Tryz.zeroValue0
  t3 := Tryz.underlying3
  a3 := Tryz.isAgg3
  z3 := Tryz.sizeOf3
  v3 := Tryz.zeroValue3
  t4 := Tryz.underlying4
  a4 := Tryz.isAgg4
  z4 := Tryz.sizeOf4
  v4 := Tryz.zeroValue4
  t5 := Tryz.underlying5
  a5 := Tryz.isAgg5
  z5 := Tryz.sizeOf5
  v5 := Tryz.zeroValue5
  t9 := Tryz.underlying9
  a9 := Tryz.isAgg9
  z9 := Tryz.sizeOf9
  v9 := Tryz.zeroValue9
  t21 := Tryz.underlying21
  a21 := Tryz.isAgg21
  z21 := Tryz.sizeOf21
  v21 := Tryz.zeroValue21
  t46 := Tryz.underlying202
  a46 := Tryz.isAgg202
  z46 := Tryz.sizeOf202
  v46 := Tryz.zeroValue202
  t105 := Tryz.underlying116
  a105 := Tryz.isAgg116
  z105 := Tryz.sizeOf116
  v105 := Tryz.zeroValue116
  t116 := Tryz.underlying191
  a116 := Tryz.isAgg191
  z116 := Tryz.sizeOf191
  t117 := Tryz.underlying192
  a117 := Tryz.isAgg192
  z117 := Tryz.sizeOf192
  v117 := Tryz.zeroValue192
  t119 := Tryz.underlying201
  a119 := Tryz.isAgg201
  z119 := Tryz.sizeOf201
  t124 := Tryz.underlying195
  a124 := Tryz.isAgg195
  z124 := Tryz.sizeOf195
  v124 := Tryz.zeroValue195
  t138 := Tryz.underlying204
  a138 := Tryz.isAgg204
  z138 := Tryz.sizeOf204
  v138 := Tryz.zeroValue204
  t139 := Tryz.underlying205
  a139 := Tryz.isAgg205
  z139 := Tryz.sizeOf205
  v139 := Tryz.zeroValue205
  g3 := by kernel_rfl
  g4 := by kernel_rfl }

theorem Tryz.sTrimLeft (s cutset : ByteArray) (w : World) (hcs : cutset.size < 4294967281) (hascii : ∀ (j : Nat) b, cutset.data.toList[j]? = some b → b.toNat < 128) :
    Calls Tryz.prog 103 #[.string s, .string cutset] w fun e w' => e = .returned (.string ⟨(Lib.trimLeftS s.data.toList cutset.data.toList).toArray⟩) ∧ Below w.heap.size w w' := Any.strings_TrimLeft_laid Tryz.lx161 (by kernel_rfl) s cutset w hcs hascii

def Tryz.lxw15_ren : Go.Shelf.Ren := ⟨fun | 15 => 108 | 20 => 144 | n => n, fun | 0 => 0 | 1 => 1 | 2 => 2 | 3 => 3 | 4 => 4 | 5 => 5 | 6 => 6 | 7 => 7 | 8 => 8 | 9 => 9 | 10 => 10 | 11 => 11 | 12 => 12 | 13 => 13 | 14 => 14 | 15 => 15 | 16 => 16 | 17 => 17 | 18 => 18 | 19 => 19 | 20 => 20 | 21 => 21 | 23 => 159 | 24 => 119 | 26 => 180 | 27 => 323 | 29 => 218 | 30 => 208 | 31 => 116 | 32 => 117 | 33 => 217 | 34 => 201 | 35 => 202 | 36 => 203 | 37 => 204 | 38 => 205 | 39 => 73 | 40 => 309 | 41 => 310 | 42 => 311 | 43 => 312 | 44 => 313 | 45 => 314 | 46 => 166 | 47 => 315 | 48 => 316 | 49 => 317 | 50 => 158 | 51 => 318 | 52 => 319 | 53 => 320 | 54 => 321 | 55 => 225 | n => n, fun  | n => n⟩
theorem Tryz.lxw15 : Go.Proofs.LaysGw.n15 Tryz.prog Tryz.lxw15_ren := {
  mixed := by kernel_rfl
  f15 := Tryz.func108.trans (congrArg some (by kernel_rfl))
  f20 := Tryz.func144.trans (congrArg some (by kernel_rfl))
  t0 := Tryz.underlying0
  a0 := Tryz.isAgg0
  z0 := Tryz.sizeOf0
  v0 := Tryz.zeroValue0
  i0 := by kernel_rfl
  t3 := Tryz.underlying3
  a3 := Tryz.isAgg3
  z3 := Tryz.sizeOf3
  v3 := Tryz.zeroValue3
  i3 := by kernel_rfl
  t4 := Tryz.underlying4
  a4 := Tryz.isAgg4
  z4 := Tryz.sizeOf4
  v4 := Tryz.zeroValue4
  i4 := by kernel_rfl
  t9 := Tryz.underlying9
  a9 := Tryz.isAgg9
  z9 := Tryz.sizeOf9
  v9 := Tryz.zeroValue9
  i9 := by kernel_rfl
  t21 := Tryz.underlying21
  a21 := Tryz.isAgg21
  z21 := Tryz.sizeOf21
  v21 := Tryz.zeroValue21
  i21 := by kernel_rfl
  t23 := Tryz.underlying159
  a23 := Tryz.isAgg159
  z23 := Tryz.sizeOf159
  v23 := Tryz.zeroValue159
  i23 := by kernel_rfl }

theorem Tryz.sIndexFunc (g : Nat) (lb : Array Value) (eg : ∀ args w, (callFunc g args).run Tryz.prog w = .ok (.enter g args) w) (p : Nat → Bool) (s : ByteArray) (w : World) (hp : PredAtRunes Tryz.prog g lb p w) :
    Calls Tryz.prog 108 #[.string s, .func (.func g) #[] lb] w fun e w' => e = .returned (.int .i64 (Lib.idxFunc p true s)) ∧ Below w.heap.size w w' := Any.strings_IndexFunc_runes Tryz.lxw15 g lb eg p s w hp

def Tryz.lxhPair_ren : Go.Shelf.Ren := ⟨fun | 6 => 153 | 8 => 117 | n => n, fun | 0 => 0 | 1 => 1 | 2 => 2 | 3 => 3 | 4 => 4 | 5 => 5 | 6 => 6 | 7 => 7 | 8 => 8 | 9 => 9 | 10 => 10 | 11 => 11 | 12 => 12 | 13 => 13 | 14 => 14 | 15 => 15 | 16 => 16 | 17 => 17 | 18 => 18 | 19 => 19 | 20 => 20 | 21 => 21 | 22 => 28 | 23 => 32 | 24 => 212 | 25 => 187 | 27 => 186 | 31 => 73 | 32 => 309 | 33 => 310 | 34 => 311 | 35 => 312 | 36 => 313 | 37 => 314 | 38 => 166 | 39 => 315 | 40 => 316 | 41 => 317 | 42 => 158 | 43 => 318 | 44 => 319 | 45 => 320 | 46 => 321 | 47 => 225 | n => n, fun  | n => n⟩
theorem Tryz.lxhPair : Go.Proofs.SlLaysH0.n8 Tryz.prog Tryz.lxhPair_ren := {
  mixed := by kernel_rfl
  f6 := ⟨"slices.IndexFunc[[]tipstave/api.Pair,tipstave/api.Pair]", by kernel_rfl, Tryz.func153.trans (congrArg some (by kernel_rfl))⟩
  f8 := ⟨"slices.ContainsFunc[[]tipstave/api.Pair,tipstave/api.Pair]", by kernel_rfl, Tryz.func117.trans (congrArg some (by kernel_rfl))⟩
  t0 := Tryz.underlying0
  a0 := Tryz.isAgg0
  z0 := Tryz.sizeOf0
  v0 := Tryz.zeroValue0
  t3 := Tryz.underlying3
  a3 := Tryz.isAgg3
  z3 := Tryz.sizeOf3
  v3 := Tryz.zeroValue3
  t4 := Tryz.underlying4
  a4 := Tryz.isAgg4
  z4 := Tryz.sizeOf4
  v4 := Tryz.zeroValue4
  t22 := Tryz.underlying28
  a22 := Tryz.isAgg28
  z22 := Tryz.sizeOf28
  v22 := Tryz.zeroValue28
  t25 := Tryz.underlying187
  a25 := Tryz.isAgg187
  z25 := Tryz.sizeOf187
  v25 := Tryz.zeroValue187 }

theorem Tryz.sContainsPair {α : Type} [Inhabited α] (k : Nat) (zE : ∀ w, (Go.sizeOf 32).run Tryz.prog w = .ok k w) (enc : α → List Value) (hk : ∀ x, (enc x).length = k) (p : α → Bool) (g : Nat) (lb : Array Value) (eg : ∀ args w, (callFunc g args).run Tryz.prog w = .ok (.enter g args) w) (b off n c : Nat) (zs : List α) (w : World)
    (hp : PredBelow Tryz.prog g lb (fun x => .agg (enc x).toArray) p w) (hz : n ≤ zs.length) (hbig : n ≤ 9223372036854775807) (hb : b < w.heap.size)
    (hc : ∀ j, j < zs.length → ∀ i v, (enc zs[j]!)[i]? = some v → w.cell? ⟨b, off + j * k + i, none⟩ = some v) :
    Calls Tryz.prog 117 #[.slice (some ⟨b, off, none⟩) n c, .func (.func g) #[] lb] w fun e w' => e = .returned (.bool ((zs.take n).any p)) ∧ Below w.heap.size w w' := AnyQ.slices_ContainsFunc Tryz.lxhPair k Tryz.isAgg32 zE enc hk p g lb eg b off n c zs w hp hz hbig hb hc

end Go.Proofs
