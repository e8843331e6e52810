/- Layings of strings.TrimLeft, strings.IndexFunc and slices.ContainsFunc over this seat's translation (printed by wip/tools/mklays2.py), and these contracts at the seat's numbers. -/
import Derived.Test.YtfnmhdnlogfbdaaGreatDoorProg
import Derived.Shelf.Lays
import Derived.Shelf.Strings.SlTrimAscii
import Derived.Shelf.GgClosure.StringsRunes
import Derived.Shelf.SlicesQ.IndexFunc
import Derived.KernelRfl
namespace Go.Proofs
open Go.Shelf Go.RowKit
def Tryz.lx161_ren : Go.Shelf.Ren := ⟨fun | 119 => 47 | 137 => 131 | 151 => 95 | 152 => 115 | 161 => 49 | 197 => 25 | 217 => 105 | 224 => 107 | 225 => 106 | 227 => 70 | 228 => 94 | 231 => 69 | 233 => 71 | 235 => 72 | 260 => 46 | 266 => 127 | n => n, fun | 0 => 0 | 1 => 1 | 2 => 2 | 3 => 3 | 4 => 4 | 5 => 5 | 6 => 6 | 7 => 7 | 8 => 8 | 9 => 9 | 10 => 10 | 11 => 11 | 12 => 12 | 13 => 13 | 14 => 14 | 15 => 15 | 16 => 16 | 17 => 17 | 18 => 18 | 19 => 19 | 20 => 20 | 21 => 21 | 22 => 105 | 23 => 85 | 24 => 78 | 25 => 84 | 27 => 110 | 28 => 144 | 31 => 87 | 37 => 22 | 40 => 83 | 41 => 147 | 46 => 117 | 47 => 232 | 51 => 91 | 52 => 233 | 53 => 209 | 54 => 225 | 55 => 167 | 59 => 80 | 60 => 86 | 63 => 148 | 64 => 172 | 69 => 67 | 70 => 132 | 71 => 133 | 72 => 134 | 73 => 73 | 74 => 135 | 75 => 136 | 76 => 137 | 77 => 138 | 79 => 139 | 80 => 53 | 81 => 241 | 83 => 219 | 84 => 223 | 85 => 190 | 86 => 191 | 94 => 263 | 103 => 250 | 104 => 68 | 105 => 63 | 106 => 64 | 108 => 218 | 111 => 65 | 114 => 168 | 115 => 122 | 116 => 123 | 117 => 124 | 118 => 125 | 119 => 116 | 122 => 121 | 123 => 126 | 124 => 127 | 126 => 169 | 127 => 170 | 128 => 205 | 137 => 118 | 138 => 119 | 139 => 120 | 143 => 220 | 144 => 221 | 145 => 222 | 146 => 192 | 151 => 193 | 155 => 130 | 164 => 194 | 165 => 195 | 166 => 171 | 167 => 208 | 168 => 212 | 169 => 213 | 170 => 214 | 171 => 224 | 172 => 226 | 173 => 227 | 174 => 228 | 175 => 210 | 176 => 211 | 203 => 165 | 209 => 216 | 210 => 217 | 211 => 229 | 212 => 230 | 213 => 231 | 214 => 215 | 217 => 187 | 229 => 142 | 232 => 234 | 233 => 235 | 238 => 236 | 239 => 237 | 240 => 238 | 241 => 239 | 242 => 240 | 243 => 242 | 244 => 243 | 245 => 244 | 246 => 245 | 247 => 246 | 248 => 247 | 249 => 248 | n => n, fun | 3 => 0 | 4 => 1 | n => n⟩
theorem Tryz.lx161 : Go.Proofs.Lays.n161 Tryz.prog Tryz.lx161_ren := {
  mixed := by kernel_rfl
  f119 := Tryz.func47.trans (congrArg some (by kernel_rfl))
  f137 := Tryz.func131.trans (congrArg some (by kernel_rfl))
  f151 := Tryz.func95.trans (congrArg some (by kernel_rfl))
  f152 := Tryz.func115.trans (congrArg some (by kernel_rfl))
  f161 := Tryz.func49.trans (congrArg some (by kernel_rfl))
  f197 := Tryz.func25.trans (congrArg some (by kernel_rfl))
  f217 := Tryz.func105.trans (congrArg some (by kernel_rfl))
  f224 := Tryz.func107.trans (congrArg some (by kernel_rfl))
  f225 := Tryz.func106.trans (congrArg some (by kernel_rfl))
  f227 := Tryz.func70.trans (congrArg some (by kernel_rfl))
  f228 := Tryz.func94.trans (congrArg some (by kernel_rfl))
  f231 := Tryz.func69.trans (congrArg some (by kernel_rfl))
  f233 := Tryz.func71.trans (congrArg some (by kernel_rfl))
  f235 := Tryz.func72.trans (congrArg some (by kernel_rfl))
  f260 := Tryz.func46.trans (congrArg some (by kernel_rfl))
  f266 := Tryz.func127.trans (congrArg some (by kernel_rfl))
  t0 := Tryz.underlying0
  a0 := Tryz.isAgg0
  z0 := Tryz.sizeOf0
  v0 := Tryz.zeroValue0
  t3 := Tryz.underlying3
  a3 := Tryz.isAgg3
  z3 := Tryz.sizeOf3
  v3 := Tryz.zeroValue3
  t4 := Tryz.underlying4
  a4 := Tryz.isAgg4
  z4 := Tryz.sizeOf4
  v4 := Tryz.zeroValue4
  t5 := Tryz.underlying5
  a5 := Tryz.isAgg5
  z5 := Tryz.sizeOf5
  v5 := Tryz.zeroValue5
  t9 := Tryz.underlying9
  a9 := Tryz.isAgg9
  z9 := Tryz.sizeOf9
  v9 := Tryz.zeroValue9
  t21 := Tryz.underlying21
  a21 := Tryz.isAgg21
  z21 := Tryz.sizeOf21
  v21 := Tryz.zeroValue21
  t46 := Tryz.underlying117
  a46 := Tryz.isAgg117
  z46 := Tryz.sizeOf117
  v46 := Tryz.zeroValue117
  t105 := Tryz.underlying63
  a105 := Tryz.isAgg63
  z105 := Tryz.sizeOf63
  v105 := Tryz.zeroValue63
  t116 := Tryz.underlying123
  a116 := Tryz.isAgg123
  z116 := Tryz.sizeOf123
  t117 := Tryz.underlying124
  a117 := Tryz.isAgg124
  z117 := Tryz.sizeOf124
  v117 := Tryz.zeroValue124
  t119 := Tryz.underlying116
  a119 := Tryz.isAgg116
  z119 := Tryz.sizeOf116
  t124 := Tryz.underlying127
  a124 := Tryz.isAgg127
  z124 := Tryz.sizeOf127
  v124 := Tryz.zeroValue127
  t138 := Tryz.underlying119
  a138 := Tryz.isAgg119
  z138 := Tryz.sizeOf119
  v138 := Tryz.zeroValue119
  t139 := Tryz.underlying120
  a139 := Tryz.isAgg120
  z139 := Tryz.sizeOf120
  v139 := Tryz.zeroValue120
  g3 := by kernel_rfl
  g4 := by kernel_rfl }

theorem Tryz.sTrimLeft (s cutset : ByteArray) (w : World) (hcs : cutset.size < 4294967281) (hascii : ∀ (j : Nat) b, cutset.data.toList[j]? = some b → b.toNat < 128) :
    Calls Tryz.prog 49 #[.string s, .string cutset] w fun e w' => e = .returned (.string ⟨(Lib.trimLeftS s.data.toList cutset.data.toList).toArray⟩) ∧ Below w.heap.size w w' := Any.strings_TrimLeft_laid Tryz.lx161 (by kernel_rfl) s cutset w hcs hascii

def Tryz.lxw15_ren : Go.Shelf.Ren := ⟨fun | 15 => 54 | 20 => 78 | n => n, fun | 0 => 0 | 1 => 1 | 2 => 2 | 3 => 3 | 4 => 4 | 5 => 5 | 6 => 6 | 7 => 7 | 8 => 8 | 9 => 9 | 10 => 10 | 11 => 11 | 12 => 12 | 13 => 13 | 14 => 14 | 15 => 15 | 16 => 16 | 17 => 17 | 18 => 18 | 19 => 19 | 20 => 20 | 21 => 21 | 23 => 83 | 24 => 67 | 26 => 106 | 27 => 250 | 29 => 148 | 30 => 130 | 31 => 63 | 32 => 64 | 33 => 147 | 34 => 116 | 35 => 117 | 36 => 118 | 37 => 119 | 38 => 120 | 39 => 53 | 40 => 236 | 41 => 237 | 42 => 238 | 43 => 239 | 44 => 240 | 45 => 241 | 46 => 91 | 47 => 242 | 48 => 243 | 49 => 244 | 50 => 170 | 51 => 245 | 52 => 246 | 53 => 247 | 54 => 248 | 55 => 194 | n => n, fun  | n => n⟩
theorem Tryz.lxw15 : Go.Proofs.LaysGw.n15 Tryz.prog Tryz.lxw15_ren := {
  mixed := by kernel_rfl
  f15 := Tryz.func54.trans (congrArg some (by kernel_rfl))
  f20 := Tryz.func78.trans (congrArg some (by kernel_rfl))
  t0 := Tryz.underlying0
  a0 := Tryz.isAgg0
  z0 := Tryz.sizeOf0
  v0 := Tryz.zeroValue0
  i0 := by kernel_rfl
  t3 := Tryz.underlying3
  a3 := Tryz.isAgg3
  z3 := Tryz.sizeOf3
  v3 := Tryz.zeroValue3
  i3 := by kernel_rfl
  t4 := Tryz.underlying4
  a4 := Tryz.isAgg4
  z4 := Tryz.sizeOf4
  v4 := Tryz.zeroValue4
  i4 := by kernel_rfl
  t9 := Tryz.underlying9
  a9 := Tryz.isAgg9
  z9 := Tryz.sizeOf9
  v9 := Tryz.zeroValue9
  i9 := by kernel_rfl
  t21 := Tryz.underlying21
  a21 := Tryz.isAgg21
  z21 := Tryz.sizeOf21
  v21 := Tryz.zeroValue21
  i21 := by kernel_rfl
  t23 := Tryz.underlying83
  a23 := Tryz.isAgg83
  z23 := Tryz.sizeOf83
  v23 := Tryz.zeroValue83
  i23 := by kernel_rfl }

theorem Tryz.sIndexFunc (g : Nat) (lb : Array Value) (eg : ∀ args w, (callFunc g args).run Tryz.prog w = .ok (.enter g args) w) (p : Nat → Bool) (s : ByteArray) (w : World) (hp : PredAtRunes Tryz.prog g lb p w) :
    Calls Tryz.prog 54 #[.string s, .func (.func g) #[] lb] w fun e w' => e = .returned (.int .i64 (Lib.idxFunc p true s)) ∧ Below w.heap.size w w' := Any.strings_IndexFunc_runes Tryz.lxw15 g lb eg p s w hp

def Tryz.lxhPair_ren : Go.Shelf.Ren := ⟨fun | 6 => 89 | 8 => 63 | n => n, fun | 0 => 0 | 1 => 1 | 2 => 2 | 3 => 3 | 4 => 4 | 5 => 5 | 6 => 6 | 7 => 7 | 8 => 8 | 9 => 9 | 10 => 10 | 11 => 11 | 12 => 12 | 13 => 13 | 14 => 14 | 15 => 15 | 16 => 16 | 17 => 17 | 18 => 18 | 19 => 19 | 20 => 20 | 21 => 21 | 22 => 28 | 23 => 32 | 24 => 141 | 25 => 114 | 27 => 113 | 31 => 53 | 32 => 236 | 33 => 237 | 34 => 238 | 35 => 239 | 36 => 240 | 37 => 241 | 38 => 91 | 39 => 242 | 40 => 243 | 41 => 244 | 42 => 170 | 43 => 245 | 44 => 246 | 45 => 247 | 46 => 248 | 47 => 194 | n => n, fun  | n => n⟩
theorem Tryz.lxhPair : Go.Proofs.SlLaysH0.n8 Tryz.prog Tryz.lxhPair_ren := {
  mixed := by kernel_rfl
  f6 := ⟨"slices.IndexFunc[[]tipstave/api.Pair,tipstave/api.Pair]", by kernel_rfl, Tryz.func89.trans (congrArg some (by kernel_rfl))⟩
  f8 := ⟨"slices.ContainsFunc[[]tipstave/api.Pair,tipstave/api.Pair]", by kernel_rfl, Tryz.func63.trans (congrArg some (by kernel_rfl))⟩
  t0 := Tryz.underlying0
  a0 := Tryz.isAgg0
  z0 := Tryz.sizeOf0
  v0 := Tryz.zeroValue0
  t3 := Tryz.underlying3
  a3 := Tryz.isAgg3
  z3 := Tryz.sizeOf3
  v3 := Tryz.zeroValue3
  t4 := Tryz.underlying4
  a4 := Tryz.isAgg4
  z4 := Tryz.sizeOf4
  v4 := Tryz.zeroValue4
  t22 := Tryz.underlying28
  a22 := Tryz.isAgg28
  z22 := Tryz.sizeOf28
  v22 := Tryz.zeroValue28
  t25 := Tryz.underlying114
  a25 := Tryz.isAgg114
  z25 := Tryz.sizeOf114
  v25 := Tryz.zeroValue114 }

theorem Tryz.sContainsPair {α : Type} [Inhabited α] (k : Nat) (zE : ∀ w, (Go.sizeOf 32).run Tryz.prog w = .ok k w) (enc : α → List Value) (hk : ∀ x, (enc x).length = k) (p : α → Bool) (g : Nat) (lb : Array Value) (eg : ∀ args w, (callFunc g args).run Tryz.prog w = .ok (.enter g args) w) (b off n c : Nat) (zs : List α) (w : World)
    (hp : PredBelow Tryz.prog g lb (fun x => .agg (enc x).toArray) p w) (hz : n ≤ zs.length) (hbig : n ≤ 9223372036854775807) (hb : b < w.heap.size)
    (hc : ∀ j, j < zs.length → ∀ i v, (enc zs[j]!)[i]? = some v → w.cell? ⟨b, off + j * k + i, none⟩ = some v) :
    Calls Tryz.prog 63 #[.slice (some ⟨b, off, none⟩) n c, .func (.func g) #[] lb] w fun e w' => e = .returned (.bool ((zs.take n).any p)) ∧ Below w.heap.size w w' := AnyQ.slices_ContainsFunc Tryz.lxhPair k Tryz.isAgg32 zE enc hk p g lb eg b off n c zs w hp hz hbig hb hc

end Go.Proofs
