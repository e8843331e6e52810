/- Walks: entity.cutLeft, entity.cutRight: a text without the characters of an ASCII set at its begin, at its end. -/
import Derived.Test.YtblhpkcdemefaaaGreatDoorUtf
import Derived.Deep.LoopGhost
set_option linter.unusedVariables false
set_option linter.unusedSimpArgs false
namespace Go.Proofs.YtblhpkcdemefaaaGreatDoor
open Go.RowKit

set_option maxHeartbeats 4000000 in
theorem cutLeft_any (l set : List UInt8) (s t : ByteArray) (hs : s = ⟨l.toArray⟩) (ht : t = ⟨set.toArray⟩) (w : World) (hl : l.length ≤ 2147483647) (hset : ∀ b ∈ set, b.toNat < 128) (hst : set.length < 100) :
    Calls Tryz.prog 203 #[.string s, .string t] w fun e w' => e = .returned (.string ⟨(cutL l set).toArray⟩) ∧ Below w.heap.size w w' := by
  subst hs ht
  have HS1 := Lib.hid (ba_size l)
  have HS2 := Lib.hid (ba_size set)
  have HSET := Lib.hid hset
  clear hset
  go_enter Tryz.func203, Tryz.ntmps203
  go_wp2
  go_loopw [] (fun wr => ∃ pos : Nat, wr.heap[w.heap.size]? = some (.stringIter ⟨l.toArray⟩ pos) ∧ Below w.heap.size w wr ∧ cutL l set = cutL (l.drop pos) set ∧ pos ≤ l.length) (fun wr => l.length - wr.iterPos w.heap.size)
  case atStart =>
    refine ⟨0, ?_, (Below.refl _ w).alloc (Nat.le_refl _) _, rfl, by omega⟩
    have := World.iter_heap w ⟨l.toArray⟩ 0
    simpa using this
  case round =>
    obtain ⟨pos, hit, hbw, hchk, hpl⟩ := hrel
    obtain ⟨wo, rfl⟩ : ∃ wo : World, wo = wr := ⟨_, rfl⟩
    have hsz : w.heap.size < wo.heap.size := (Array.getElem?_eq_some_iff.1 hit).1
    have HC := Lib.hid hchk
    have HIT := Lib.hid hit
    clear hchk
    by_cases hp : pos < l.length
    · have h0 : l.drop pos ≠ [] := by
        intro h
        have := congrArg List.length h
        simp at this
        omega
      have hnx : ∀ ty, (Instr.next (.pointer (some ⟨w.heap.size, 0, none⟩)) true ty).run Tryz.prog wo = _ := fun ty => Lib.run_next_any_at wo w.heap.size ⟨l.toArray⟩ pos ty hit (by rw [ba_size]; exact hp)
      rw [decode_drop] at hnx
      have hstr : ((⟨l.toArray⟩ : ByteArray)).data.toList.drop pos = l.drop pos := rfl
      rw [hstr] at hnx
      clear hstr
      have hit2 := Lib.iterAt_heap wo w.heap.size ⟨l.toArray⟩ pos (pos + (Lib.decodeL (l.drop pos)).2) hit
      have hbw2 := Lib.below_iterAt hbw (k := w.heap.size) (Nat.le_refl _) ⟨l.toArray⟩ (pos + (Lib.decodeL (l.drop pos)).2)
      have HIN := Lib.hid (fun h => cutL_in (set := set) h0 HSET.out h)
      have HOUT := Lib.hid (fun h => cutL_out (set := set) h0 HSET.out h)
      obtain ⟨_, _, hb3, hb4⟩ := dec_bounds _ h0
      rw [List.length_drop] at hb3
      generalize (Lib.decodeL (l.drop pos)).1 = c at *
      generalize (Lib.decodeL (l.drop pos)).2 = n at *
      have hsz2 : w.heap.size < (wo.iterAt w.heap.size ⟨l.toArray⟩ (pos + n)).heap.size := by rw [Lib.iterAt_size]; exact hsz
      obtain ⟨w2, hw2⟩ : ∃ w2, w2 = wo.iterAt w.heap.size ⟨l.toArray⟩ (pos + n) := ⟨_, rfl⟩
      rw [← hw2] at hnx hit2 hbw2 hsz2
      clear hw2 hit h0
      have HIT2 := Lib.hid hit2
      clear hit2
      go_wp2
      clear hnx
      go_loopw [7] (fun v7 wr => ∃ j : Nat, j ≤ set.length ∧ v7 = .bool (memB c (set.take j)) ∧ wr.heap[w2.heap.size]? = some (.stringIter ⟨set.toArray⟩ j) ∧ Below w2.heap.size w2 wr) (fun _ wr => set.length - wr.iterPos w2.heap.size)
      case atStart =>
        refine ⟨0, by omega, rfl, ?_, (Below.refl _ w2).alloc (Nat.le_refl _) _⟩
        have := World.iter_heap w2 ⟨set.toArray⟩ 0
        simpa using this
      case round =>
        obtain ⟨j, hj, rfl, hitj, hbj⟩ := hrel
        by_cases hjl : j < set.length
        · have hget : (⟨set.toArray⟩ : ByteArray)[j]'(by rw [ba_size]; exact hjl) = set[j] := rfl
          have hnx : ∀ ty, (Instr.next (.pointer (some ⟨w2.heap.size, 0, none⟩)) true ty).run Tryz.prog wr = _ := fun ty => Lib.run_next_ascii_at wr w2.heap.size ⟨set.toArray⟩ j ty hitj (by rw [ba_size]; exact hjl) (HSET.out _ (by rw [hget]; exact List.getElem_mem hjl))
          rw [hget] at hnx
          clear hget
          have HM := Lib.hid (memB_take c set j hjl)
          have hitj2 := Lib.iterAt_heap wr w2.heap.size ⟨set.toArray⟩ j (j + 1) hitj
          have hbj2 := Lib.below_iterAt hbj (k := w2.heap.size) (Nat.le_refl _) ⟨set.toArray⟩ (j + 1)
          have HJ := Lib.hid hitj
          have HJ2 := Lib.hid hitj2
          clear hitj hitj2
          generalize hd : set[j] = d at *
          cases hm : memB c (set.take j) with
          | true =>
            rw [hm] at HM
            clear hm
            go_wp2
            go_roundw
            case rel => exact ⟨j + 1, by omega, by rw [HM.out]; rfl, HJ2.out, hbj2⟩
            case measure => simp only [World.iterPos, HJ2.out, HJ.out]; omega
          | false =>
            rw [hm] at HM
            clear hm
            go_wp2
            go_roundw
            case rel => exact ⟨j + 1, by omega, by rw [HM.out]; rfl, HJ2.out, hbj2⟩
            case measure => simp only [World.iterPos, HJ2.out, HJ.out]; omega
        · have hnx : ∀ ty, (Instr.next (.pointer (some ⟨w2.heap.size, 0, none⟩)) true ty).run Tryz.prog wr = _ := fun ty => Lib.run_next_end_at wr w2.heap.size ⟨set.toArray⟩ j ty hitj (by rw [ba_size]; exact hjl)
          have hje : set.take j = set := List.take_of_length_le (by omega)
          rw [hje]
          clear hje hitj
          have hitw := (hbj.block w.heap.size hsz2).trans HIT2.out
          have hbww : Below w.heap.size w wr := hbw2.trans (hbj.mono (by omega))
          cases hm : memB c set with
          | true =>
            obtain ⟨hn1, hcc⟩ := HIN.out hm
            clear hm
            have HCC := Lib.hid (HC.out.trans hcc)
            clear hcc
            have HW := Lib.hid hitw
            clear hitw
            go_wp2
            go_roundw
            case rel => exact ⟨pos + n, HW.out, hbww, by rw [HCC.out, List.drop_drop, hn1], by omega⟩
            case measure => simp only [World.iterPos, HW.out, HIT.out]; omega
          | false =>
            have HCC := Lib.hid (HC.out.trans (HOUT.out hm))
            clear hm hitw
            have i3 : (pos : Int) ≤ (l.length : Int) := by omega
            go_wp2
            go_ret
            exact ⟨by rw [HCC.out]; simp [extract_drop l pos l.length (Nat.le_refl _)], hbww⟩
    · have hnx : ∀ ty, (Instr.next (.pointer (some ⟨w.heap.size, 0, none⟩)) true ty).run Tryz.prog wo = _ := fun ty => Lib.run_next_end_at wo w.heap.size ⟨l.toArray⟩ pos ty hit (by rw [ba_size]; exact hp)
      have HCC : Hid (cutL l set = []) := Lib.hid (by rw [HC.out, List.drop_eq_nil_of_le (by omega)]; rfl)
      clear hit
      go_wp2
      go_ret
      exact ⟨by rw [HCC.out]; rfl, hbw⟩
def strLen (v : Value) : Nat := match v with | .string s => s.size | _ => 0

theorem toList_mk (l : List UInt8) : (⟨l.toArray⟩ : ByteArray).data.toList = l := rfl

theorem extract_take (l : List UInt8) (p : Nat) (hp : p ≤ l.length) : (⟨l.toArray⟩ : ByteArray).extract 0 p = ⟨(l.take p).toArray⟩ := by
  apply ByteArray.ext
  apply Array.toList_inj.1
  rw [Lib.extract_data]
  simp

set_option maxHeartbeats 4000000 in
theorem cutRight_any (l set : List UInt8) (s t : ByteArray) (hs : s = ⟨l.toArray⟩) (ht : t = ⟨set.toArray⟩) (w : World) (hl : l.length ≤ 2147483647) (hR : Ready w) (hset : ∀ b ∈ set, b.toNat < 128) (hst : set.length < 100) :
    Calls Tryz.prog 202 #[.string s, .string t] w fun e w' => e = .returned (.string ⟨(cutR l set).toArray⟩) ∧ Below w.heap.size w w' := by
  subst hs ht
  have HS2 := Lib.hid (ba_size set)
  have HSET := Lib.hid hset
  clear hset
  go_enter Tryz.func202, Tryz.ntmps202
  go_wp2
  go_loopw [0] (fun v0 wr => ∃ r : List UInt8, v0 = .string ⟨r.toArray⟩ ∧ Below w.heap.size w wr ∧ cutR l set = cutR r set ∧ r.length ≤ l.length) (fun v0 wr => strLen v0)
  case atStart => exact ⟨l, rfl, Below.refl _ w, rfl, Nat.le_refl _⟩
  case round =>
    obtain ⟨r, rfl, hbw, hchk, hrl⟩ := hrel
    obtain ⟨wo, rfl⟩ : ∃ wo : World, wo = wr := ⟨_, rfl⟩
    have HC := Lib.hid hchk
    clear hchk
    have hT := (hR.below hbw).tabs
    have hsz := hbw.size
    have hrs := ba_size r
    by_cases h0 : r = []
    · have HCC : Hid (cutR l set = []) := Lib.hid (by rw [HC.out, h0]; rfl)
      subst h0
      clear hrs
      go_wp2
      go_ret
      exact ⟨by rw [HCC.out]; rfl, hbw⟩
    · have hpos : 0 < r.length := by cases r with | nil => exact absurd rfl h0 | cons x r => simp
      have cD := Tryz.utf8_DecodeLastRuneInString ⟨r.toArray⟩ wo (by rw [hrs]; omega) hT
      rw [toList_mk] at cD
      have HIN := Lib.hid (fun h => cutR_in (set := set) h0 HSET.out h)
      have HOUT := Lib.hid (fun h => cutR_out (set := set) h0 HSET.out h)
      generalize hc : (Lib.decodeLastL r).1 = c at *
      generalize hn : (Lib.decodeLastL r).2 = n at *
      have CD := Lib.hid cD
      clear cD h0 hc hn
      have hi0 : (0 : Int) < ((⟨r.toArray⟩ : ByteArray).size : Int) := by omega
      go_wp2_with (go_at_call 160; refine (CD.out).mono ?_; rintro e w2 ⟨rfl, hb2⟩)
      have hsz2 := hb2.size
      have hbw2 := hbw.trans (hb2.mono hsz)
      clear hT CD
      go_loopw [7] (fun v7 wr => ∃ j : Nat, j ≤ set.length ∧ v7 = .bool (memB c (set.take j)) ∧ wr.heap[w2.heap.size]? = some (.stringIter ⟨set.toArray⟩ j) ∧ Below w2.heap.size w2 wr) (fun _ wr => set.length - wr.iterPos w2.heap.size)
      case atStart =>
        refine ⟨0, by omega, rfl, ?_, (Below.refl _ w2).alloc (Nat.le_refl _) _⟩
        have := World.iter_heap w2 ⟨set.toArray⟩ 0
        simpa using this
      case round =>
        obtain ⟨j, hj, rfl, hitj, hbj⟩ := hrel
        by_cases hjl : j < set.length
        · have hget : (⟨set.toArray⟩ : ByteArray)[j]'(by rw [ba_size]; exact hjl) = set[j] := rfl
          have hnx : ∀ ty, (Instr.next (.pointer (some ⟨w2.heap.size, 0, none⟩)) true ty).run Tryz.prog wr = _ := fun ty => Lib.run_next_ascii_at wr w2.heap.size ⟨set.toArray⟩ j ty hitj (by rw [ba_size]; exact hjl) (HSET.out _ (by rw [hget]; exact List.getElem_mem hjl))
          rw [hget] at hnx
          clear hget
          have HM := Lib.hid (memB_take c set j hjl)
          have hitj2 := Lib.iterAt_heap wr w2.heap.size ⟨set.toArray⟩ j (j + 1) hitj
          have hbj2 := Lib.below_iterAt hbj (k := w2.heap.size) (Nat.le_refl _) ⟨set.toArray⟩ (j + 1)
          have HJ := Lib.hid hitj
          have HJ2 := Lib.hid hitj2
          clear hitj hitj2
          generalize hd : set[j] = d at *
          cases hm : memB c (set.take j) with
          | true =>
            rw [hm] at HM
            clear hm
            go_wp2
            go_roundw
            case rel => exact ⟨j + 1, by omega, by rw [HM.out]; rfl, HJ2.out, hbj2⟩
            case measure => simp only [World.iterPos, HJ2.out, HJ.out]; omega
          | false =>
            rw [hm] at HM
            clear hm
            go_wp2
            go_roundw
            case rel => exact ⟨j + 1, by omega, by rw [HM.out]; rfl, HJ2.out, hbj2⟩
            case measure => simp only [World.iterPos, HJ2.out, HJ.out]; omega
        · have hnx : ∀ ty, (Instr.next (.pointer (some ⟨w2.heap.size, 0, none⟩)) true ty).run Tryz.prog wr = _ := fun ty => Lib.run_next_end_at wr w2.heap.size ⟨set.toArray⟩ j ty hitj (by rw [ba_size]; exact hjl)
          have hje : set.take j = set := List.take_of_length_le (by omega)
          rw [hje]
          clear hje hitj
          have hbww : Below w.heap.size w wr := hbw2.trans (hbj.mono (by omega))
          cases hm : memB c set with
          | true =>
            obtain ⟨hn1, hcc⟩ := HIN.out hm
            have HCC := Lib.hid (HC.out.trans hcc)
            clear hm hcc
            subst hn1
            have HRS := Lib.hid hrs
            have HX := Lib.hid (extract_take r (r.length - 1) (by omega))
            have i4 : (1 : Int) ≤ ((⟨r.toArray⟩ : ByteArray).size : Int) := by omega
            clear hrs
            go_wp2
            go_roundw
            case rel => exact ⟨r.take (r.length - 1), congrArg Value.string HX.out, hbww, HCC.out, by rw [List.length_take]; omega⟩
            case measure =>
              show strLen (Value.string _) < strLen (Value.string _)
              simp only [strLen]
              rw [HX.out, ba_size, ba_size, List.length_take]
              omega
          | false =>
            have HCC := Lib.hid (HC.out.trans (HOUT.out hm))
            clear hm hrs
            go_wp2
            go_ret
            exact ⟨by rw [HCC.out]; rfl, hbww⟩
end Go.Proofs.YtblhpkcdemefaaaGreatDoor
