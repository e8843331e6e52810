/- The layings of strings.Builder's writers and of utf8.DecodeRune over this seat's translation (printed by wip/tools/mklays.py), and these contracts at the seat's numbers. -/
import Derived.Test.YtgkfadkgkdjcoaaDoorProg
import Derived.Shelf.Lays
import Derived.Shelf.Lays7
import Derived.Shelf.Strings.BuilderK
import Derived.Shelf.Strings.BuilderRune
import Derived.Shelf.Spec.DecodeRune
import Derived.KernelRfl
namespace Go.Proofs
open Go.Shelf Go.RowKit
def Tryd.lx166_ren : Go.Shelf.Ren := ⟨fun | 166 => 34 | 240 => 44 | 276 => 55 | n => n, fun | 0 => 0 | 1 => 1 | 2 => 2 | 3 => 3 | 4 => 4 | 5 => 5 | 6 => 6 | 7 => 7 | 8 => 8 | 9 => 9 | 10 => 10 | 11 => 11 | 12 => 12 | 13 => 13 | 14 => 14 | 15 => 15 | 16 => 16 | 17 => 17 | 18 => 18 | 19 => 19 | 20 => 20 | 21 => 21 | 22 => 44 | 23 => 71 | 24 => 38 | 25 => 70 | 27 => 79 | 28 => 61 | 31 => 34 | 37 => 32 | 40 => 78 | 41 => 90 | 46 => 29 | 47 => 118 | 51 => 83 | 52 => 119 | 53 => 92 | 54 => 111 | 55 => 88 | 59 => 52 | 60 => 53 | 69 => 101 | 70 => 47 | 71 => 48 | 72 => 49 | 74 => 56 | 75 => 57 | 76 => 58 | 77 => 65 | 79 => 59 | 80 => 60 | 81 => 127 | 83 => 105 | 84 => 109 | 85 => 72 | 86 => 73 | 104 => 28 | 105 => 66 | 106 => 77 | 108 => 104 | 111 => 31 | 114 => 89 | 119 => 84 | 126 => 74 | 127 => 75 | 128 => 80 | 137 => 85 | 138 => 86 | 139 => 87 | 143 => 106 | 144 => 107 | 145 => 108 | 146 => 98 | 151 => 99 | 164 => 81 | 165 => 82 | 166 => 33 | 167 => 91 | 168 => 95 | 169 => 96 | 170 => 97 | 171 => 110 | 172 => 112 | 173 => 113 | 174 => 114 | 175 => 93 | 176 => 94 | 203 => 54 | 209 => 102 | 210 => 103 | 211 => 115 | 212 => 116 | 213 => 117 | 214 => 100 | 217 => 67 | 229 => 41 | 232 => 120 | 233 => 121 | 238 => 122 | 239 => 123 | 240 => 124 | 241 => 125 | 242 => 126 | 243 => 128 | 244 => 129 | 245 => 130 | 246 => 131 | 247 => 132 | 248 => 133 | 249 => 134 | n => n, fun  | n => n⟩
theorem Tryd.lx166 : Go.Proofs.Lays.n166 Tryd.prog Tryd.lx166_ren := {
  mixed := by kernel_rfl
  f166 := Tryd.func34.trans (congrArg some (by kernel_rfl))
  f240 := Tryd.func44.trans (congrArg some (by kernel_rfl))
  f276 := Tryd.func55.trans (congrArg some (by kernel_rfl))
  t0 := Tryd.underlying0
  a0 := Tryd.isAgg0
  z0 := Tryd.sizeOf0
  v0 := Tryd.zeroValue0
  t3 := Tryd.underlying3
  a3 := Tryd.isAgg3
  z3 := Tryd.sizeOf3
  v3 := Tryd.zeroValue3
  t4 := Tryd.underlying4
  a4 := Tryd.isAgg4
  z4 := Tryd.sizeOf4
  v4 := Tryd.zeroValue4
  t9 := Tryd.underlying9
  a9 := Tryd.isAgg9
  z9 := Tryd.sizeOf9
  v9 := Tryd.zeroValue9
  t20 := Tryd.underlying20
  a20 := Tryd.isAgg20
  z20 := Tryd.sizeOf20
  v20 := Tryd.zeroValue20
  t37 := Tryd.underlying32
  a37 := Tryd.isAgg32
  z37 := Tryd.sizeOf32
  v37 := Tryd.zeroValue32
  t70 := Tryd.underlying47
  a70 := Tryd.isAgg47
  z70 := Tryd.sizeOf47
  v70 := Tryd.zeroValue47
  t72 := Tryd.underlying49
  a72 := Tryd.isAgg49
  z72 := Tryd.sizeOf49
  v72 := Tryd.zeroValue49
  t75 := Tryd.underlying57
  a75 := Tryd.isAgg57
  z75 := Tryd.sizeOf57
  v75 := Tryd.zeroValue57
  t164 := Tryd.underlying81
  a164 := Tryd.isAgg81
  z164 := Tryd.sizeOf81
  v164 := Tryd.zeroValue81 }

theorem Tryd.lx166_extra : Builder.Extra Tryd.prog Tryd.lx166_ren := {
  sizeBuilder := by kernel_rfl
  liesBuilder := by kernel_rfl
  t5 := Tryd.underlying5
  a5 := Tryd.isAgg5
  z5 := Tryd.sizeOf5
  v5 := Tryd.zeroValue5
  infoByte := by kernel_rfl
  cellsByte := by kernel_rfl
  sizeByte := by kernel_rfl
  neB5 := by decide }

theorem Tryd.bWriteString (B b : Nat) (bs : List Value) (s : ByteArray) (w : World) (h : Lib.IsBuilderF 49 5 B b bs w) (hlen : bs.length + s.size ≤ 140737488355328) (hBw : B ≤ w.heap.size) :
    Calls Tryd.prog 34 #[.pointer (some ⟨b, 0, none⟩), .string s] w fun e w' => e = .returned (.tuple #[.int .i64 s.size, .nilIface]) ∧ (Lib.BuilderAtF 49 5 B b (.pointer (some ⟨b, 0, none⟩)) (bs ++ Lib.strCells s) w' ∧ Below B w w' ∧ Lib.OthersKept 5 (some b) w w') := Any.Builder_WriteString_k Tryd.lx166 Tryd.lx166_extra B b bs s w h hlen hBw

def Tryd.lx168_ren : Go.Shelf.Ren := ⟨fun | 168 => 29 | 240 => 44 | 242 => 45 | 276 => 55 | 278 => 56 | n => n, fun | 0 => 0 | 1 => 1 | 2 => 2 | 3 => 3 | 4 => 4 | 5 => 5 | 6 => 6 | 7 => 7 | 8 => 8 | 9 => 9 | 10 => 10 | 11 => 11 | 12 => 12 | 13 => 13 | 14 => 14 | 15 => 15 | 16 => 16 | 17 => 17 | 18 => 18 | 19 => 19 | 20 => 20 | 21 => 21 | 22 => 44 | 23 => 71 | 24 => 38 | 25 => 70 | 27 => 79 | 28 => 61 | 31 => 34 | 37 => 32 | 40 => 78 | 41 => 90 | 46 => 29 | 47 => 118 | 51 => 83 | 52 => 119 | 53 => 92 | 54 => 111 | 55 => 88 | 59 => 52 | 60 => 53 | 69 => 101 | 70 => 47 | 71 => 48 | 72 => 49 | 74 => 56 | 75 => 57 | 76 => 58 | 77 => 65 | 79 => 59 | 80 => 60 | 81 => 127 | 83 => 105 | 84 => 109 | 85 => 72 | 86 => 73 | 104 => 28 | 105 => 66 | 106 => 77 | 108 => 104 | 111 => 31 | 114 => 89 | 119 => 84 | 126 => 74 | 127 => 75 | 128 => 80 | 137 => 85 | 138 => 86 | 139 => 87 | 143 => 106 | 144 => 107 | 145 => 108 | 146 => 98 | 151 => 99 | 164 => 81 | 165 => 82 | 166 => 33 | 167 => 91 | 168 => 95 | 169 => 96 | 170 => 97 | 171 => 110 | 172 => 112 | 173 => 113 | 174 => 114 | 175 => 93 | 176 => 94 | 203 => 54 | 209 => 102 | 210 => 103 | 211 => 115 | 212 => 116 | 213 => 117 | 214 => 100 | 217 => 67 | 229 => 41 | 232 => 120 | 233 => 121 | 238 => 122 | 239 => 123 | 240 => 124 | 241 => 125 | 242 => 126 | 243 => 128 | 244 => 129 | 245 => 130 | 246 => 131 | 247 => 132 | 248 => 133 | 249 => 134 | n => n, fun  | n => n⟩
theorem Tryd.lx168 : Go.Proofs.Lays.n168 Tryd.prog Tryd.lx168_ren := {
  mixed := by kernel_rfl
  f168 := Tryd.func29.trans (congrArg some (by kernel_rfl))
  f240 := Tryd.func44.trans (congrArg some (by kernel_rfl))
  f242 := Tryd.func45.trans (congrArg some (by kernel_rfl))
  f276 := Tryd.func55.trans (congrArg some (by kernel_rfl))
  f278 := Tryd.func56.trans (congrArg some (by kernel_rfl))
  t0 := Tryd.underlying0
  a0 := Tryd.isAgg0
  z0 := Tryd.sizeOf0
  v0 := Tryd.zeroValue0
  t3 := Tryd.underlying3
  a3 := Tryd.isAgg3
  z3 := Tryd.sizeOf3
  v3 := Tryd.zeroValue3
  t4 := Tryd.underlying4
  a4 := Tryd.isAgg4
  z4 := Tryd.sizeOf4
  v4 := Tryd.zeroValue4
  t5 := Tryd.underlying5
  a5 := Tryd.isAgg5
  z5 := Tryd.sizeOf5
  v5 := Tryd.zeroValue5
  t9 := Tryd.underlying9
  a9 := Tryd.isAgg9
  z9 := Tryd.sizeOf9
  v9 := Tryd.zeroValue9
  t20 := Tryd.underlying20
  a20 := Tryd.isAgg20
  z20 := Tryd.sizeOf20
  v20 := Tryd.zeroValue20
  t21 := Tryd.underlying21
  a21 := Tryd.isAgg21
  z21 := Tryd.sizeOf21
  v21 := Tryd.zeroValue21
  t37 := Tryd.underlying32
  a37 := Tryd.isAgg32
  z37 := Tryd.sizeOf32
  v37 := Tryd.zeroValue32
  t46 := Tryd.underlying29
  a46 := Tryd.isAgg29
  z46 := Tryd.sizeOf29
  v46 := Tryd.zeroValue29
  t51 := Tryd.underlying83
  a51 := Tryd.isAgg83
  z51 := Tryd.sizeOf83
  v51 := Tryd.zeroValue83
  t70 := Tryd.underlying47
  a70 := Tryd.isAgg47
  z70 := Tryd.sizeOf47
  v70 := Tryd.zeroValue47
  t72 := Tryd.underlying49
  a72 := Tryd.isAgg49
  z72 := Tryd.sizeOf49
  v72 := Tryd.zeroValue49
  t75 := Tryd.underlying57
  a75 := Tryd.isAgg57
  z75 := Tryd.sizeOf57
  v75 := Tryd.zeroValue57
  t164 := Tryd.underlying81
  a164 := Tryd.isAgg81
  z164 := Tryd.sizeOf81
  v164 := Tryd.zeroValue81 }

theorem Tryd.lx168_extra : Builder.Extra Tryd.prog Tryd.lx168_ren := {
  sizeBuilder := by kernel_rfl
  liesBuilder := by kernel_rfl
  t5 := Tryd.underlying5
  a5 := Tryd.isAgg5
  z5 := Tryd.sizeOf5
  v5 := Tryd.zeroValue5
  infoByte := by kernel_rfl
  cellsByte := by kernel_rfl
  sizeByte := by kernel_rfl
  neB5 := by decide }

theorem Tryd.bWriteRune (B b : Nat) (bs : List Value) (r : Int) (hr0 : -2147483648 ≤ r) (hr1 : r ≤ 2147483647) (w : World) (h : Lib.IsBuilderF 49 5 B b bs w) (hlen : bs.length + 4 ≤ 140737488355328) (hBw : B ≤ w.heap.size) :
    Calls Tryd.prog 29 #[.pointer (some ⟨b, 0, none⟩), .int .i32 r] w fun e w' => e = .returned (.tuple #[.int .i64 (Lib.runeCells r).length, .nilIface]) ∧ (Lib.BuilderAtF 49 5 B b (.pointer (some ⟨b, 0, none⟩)) (bs ++ Lib.runeCells r) w' ∧ Below B w w' ∧ Lib.OthersKept 5 (some b) w w') := Any.Builder_WriteRune_k Tryd.lx168 Tryd.lx168_extra B b bs r hr0 hr1 w h hlen hBw

def Tryd.lx32_ren : Go.Shelf.Ren := ⟨fun | 32 => 35 | 49 => 48 | n => n, fun | 0 => 0 | 1 => 1 | 2 => 2 | 3 => 3 | 4 => 4 | 5 => 5 | 6 => 6 | 7 => 7 | 8 => 8 | 9 => 9 | 10 => 10 | 11 => 11 | 12 => 12 | 13 => 13 | 14 => 14 | 15 => 15 | 16 => 16 | 17 => 17 | 18 => 18 | 19 => 19 | 20 => 20 | 21 => 21 | 22 => 92 | 25 => 29 | 26 => 118 | 27 => 83 | 28 => 119 | 29 => 111 | 30 => 32 | 32 => 35 | 33 => 66 | 34 => 67 | 36 => 47 | 37 => 56 | 38 => 57 | 39 => 58 | 42 => 61 | 44 => 34 | 47 => 74 | 48 => 78 | 53 => 120 | 54 => 121 | 56 => 90 | 58 => 48 | 59 => 49 | 66 => 84 | 67 => 85 | 68 => 86 | 69 => 87 | 70 => 54 | 73 => 81 | 74 => 82 | 75 => 77 | 89 => 60 | 90 => 122 | 91 => 123 | 92 => 124 | 93 => 125 | 94 => 126 | 95 => 127 | 96 => 128 | 97 => 129 | 98 => 130 | 99 => 75 | 100 => 131 | 101 => 132 | 102 => 133 | 103 => 134 | n => n, fun | 2 => 0 | 3 => 1 | n => n⟩
theorem Tryd.lx32 : Go.Proofs.Lays7.n32 Tryd.prog Tryd.lx32_ren := {
  mixed := by kernel_rfl
  f32 := Tryd.func35.trans (congrArg some (by kernel_rfl))
  f49 := Tryd.func48.trans (congrArg some (by kernel_rfl))
  t0 := Tryd.underlying0
  a0 := Tryd.isAgg0
  z0 := Tryd.sizeOf0
  v0 := Tryd.zeroValue0
  i0 := by kernel_rfl
  t3 := Tryd.underlying3
  a3 := Tryd.isAgg3
  z3 := Tryd.sizeOf3
  v3 := Tryd.zeroValue3
  i3 := by kernel_rfl
  t4 := Tryd.underlying4
  a4 := Tryd.isAgg4
  z4 := Tryd.sizeOf4
  v4 := Tryd.zeroValue4
  i4 := by kernel_rfl
  t5 := Tryd.underlying5
  a5 := Tryd.isAgg5
  z5 := Tryd.sizeOf5
  v5 := Tryd.zeroValue5
  i5 := by kernel_rfl
  t21 := Tryd.underlying21
  a21 := Tryd.isAgg21
  z21 := Tryd.sizeOf21
  v21 := Tryd.zeroValue21
  i21 := by kernel_rfl
  t25 := Tryd.underlying29
  a25 := Tryd.isAgg29
  z25 := Tryd.sizeOf29
  v25 := Tryd.zeroValue29
  i25 := by kernel_rfl
  t30 := Tryd.underlying32
  a30 := Tryd.isAgg32
  z30 := Tryd.sizeOf32
  v30 := Tryd.zeroValue32
  i30 := by kernel_rfl
  t33 := Tryd.underlying66
  a33 := Tryd.isAgg66
  z33 := Tryd.sizeOf66
  v33 := Tryd.zeroValue66
  i33 := by kernel_rfl
  t66 := Tryd.underlying84
  a66 := Tryd.isAgg84
  z66 := Tryd.sizeOf84
  t68 := Tryd.underlying86
  a68 := Tryd.isAgg86
  z68 := Tryd.sizeOf86
  v68 := Tryd.zeroValue86
  i68 := by kernel_rfl
  t69 := Tryd.underlying87
  a69 := Tryd.isAgg87
  z69 := Tryd.sizeOf87
  v69 := Tryd.zeroValue87
  i69 := by kernel_rfl
  g2 := by kernel_rfl
  g3 := by kernel_rfl }

theorem Tryd.uDecodeRune (s : ByteArray) (b off cap : Nat) (w : World) (hT : Lib.Utf8Tabs 0 1 w)
    (hp : ∀ j, j < s.size → w.cell? ⟨b, off + j, none⟩ = some (.int .u8 (s.get! j).toNat)) :
    Calls Tryd.prog 35 #[.slice (some ⟨b, off, none⟩) s.size cap] w fun e w' => e = .returned (.tuple #[.int .i32 (Lib.decodeGo s).1, .int .i64 (Lib.decodeGo s).2]) ∧ Below w.heap.size w w' := Any7.utf8_DecodeRune Tryd.lx32 s b off cap w hT hp

end Go.Proofs
