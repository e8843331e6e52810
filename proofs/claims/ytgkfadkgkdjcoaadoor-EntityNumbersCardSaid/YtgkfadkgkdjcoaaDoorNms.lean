/- Walks: EntityNumbers. -/
import Derived.Test.YtgkfadkgkdjcoaaDoorAlive
import Derived.Test.YtgkfadkgkdjcoaaDoorNmw
import Derived.Test.YtgkfadkgkdjcoaaDoorTellr
set_option linter.unusedVariables false
set_option linter.unusedSimpArgs false
namespace Go.Proofs.YtgkfadkgkdjcoaaDoor
open Go.RowKit

theorem put_string (w : World) (b cap : Nat) (l : List UInt8) (h : bytesAt w b 0 l) :
    (convert 32 9 (.slice (some ⟨b, 0, none⟩) l.length cap)).run Tryd.prog w = .ok (.string ⟨l.toArray⟩) w := by
  refine run_convert_bytes_back w 32 9 5 ⟨b, 0, none⟩ cap l Tryd.underlying32 Tryd.underlying5 Tryd.underlying9 fun j hj => ?_
  have hadd : (⟨b, 0, none⟩ : Addr).add j = ⟨b, 0 + j, none⟩ := by unfold Addr.add; split <;> simp_all
  rw [hadd, h j hj]
  simp [List.getD, hj]

theorem wrap_c (z : Int) : ∃ c : Nat, c < 2097152 ∧ wrap64 ((IntKind.u64.wrap z).tmod 2097152) = (c : Int) := by
  refine ⟨((z % 18446744073709551616) % 2097152).toNat, by omega, ?_⟩
  rw [IntKind.wrap_u64, Int.tmod_eq_emod_of_nonneg (by omega)]
  unfold wrap64
  omega

/-- What digits tells: its text, its reference. -/
theorem dig10_any (c : Nat) (hcb : c < 2097152) : ∃ ds : List UInt8, (ds.length ≤ 7 ∧ Ins (35 :: ds) c) ∧ ∀ wx, Calls Tryd.prog 13 #[.int .i64 c, .int .i64 10, .string ⟨#[48, 49, 50, 51, 52, 53, 54, 55, 56, 57]⟩] wx fun e w' => e = .returned (.string ⟨ds.toArray⟩) ∧ ∃ m, w' = wx.drewN m := by
  obtain ⟨h1, h2, h3, h4⟩ := digF_num (by decide) (by decide) good10 7 c (by omega) (by decide)
  exact ⟨_, ⟨h4, ins10 h1 h2 h3 h4⟩, fun wx => digits10_any _ rfl c hcb 6 (by omega) (Nat.le_trans h4 (by decide)) _ rfl wx⟩
theorem dig16_any (c : Nat) (hcb : c < 2097152) : ∃ ds : List UInt8, (ds.length ≤ 6 ∧ Ins (35 :: 120 :: ds) c) ∧ ∀ wx, Calls Tryd.prog 13 #[.int .i64 c, .int .i64 16, .string ⟨#[48, 49, 50, 51, 52, 53, 54, 55, 56, 57, 97, 98, 99, 100, 101, 102]⟩] wx fun e w' => e = .returned (.string ⟨ds.toArray⟩) ∧ ∃ m, w' = wx.drewN m := by
  obtain ⟨h1, h2, h3, h4⟩ := digF_num (by decide) (by decide) good16 6 c (by omega) (by decide)
  exact ⟨_, ⟨h4, ins16 h1 h2 h3 h4⟩, fun wx => digits16_any _ rfl c hcb 5 (by omega) (Nat.le_trans h4 (by decide)) _ rfl wx⟩
theorem dig16u_any (c : Nat) (hcb : c < 2097152) : ∃ ds : List UInt8, (ds.length ≤ 6 ∧ Ins (35 :: 120 :: ds) c) ∧ ∀ wx, Calls Tryd.prog 13 #[.int .i64 c, .int .i64 16, .string ⟨#[48, 49, 50, 51, 52, 53, 54, 55, 56, 57, 65, 66, 67, 68, 69, 70]⟩] wx fun e w' => e = .returned (.string ⟨ds.toArray⟩) ∧ ∃ m, w' = wx.drewN m := by
  obtain ⟨h1, h2, h3, h4⟩ := digF_num (by decide) (by decide) good16u 6 c (by omega) (by decide)
  exact ⟨_, ⟨h4, ins16 h1 h2 h3 h4⟩, fun wx => digits16_any _ rfl c hcb 5 (by omega) (Nat.le_trans h4 (by decide)) _ rfl wx⟩

theorem below_draw (w : World) (m : Nat) : Below w.heap.size w (w.drewN m) := ⟨rfl, rfl, rfl, Nat.le_refl _, fun _ _ => rfl⟩

theorem app3 (a b c : List UInt8) : (⟨(a ++ b ++ c).toArray⟩ : ByteArray) = ⟨a.toArray⟩ ++ ⟨b.toArray⟩ ++ ⟨c.toArray⟩ := by
  apply ByteArray.ext
  simp

theorem sig_facts (ins : List UInt8) (c : Nat) (h : Ins ins c) (σ : ByteArray) (hσ : σ = ⟨(38 :: (ins ++ [59])).toArray⟩) :
    (σ.size = ins.length + 2) ∧
    (∀ wx, Ready wx → Calls Tryd.prog 10 #[.string ((⟨#[120]⟩ : ByteArray) ++ σ)] wx fun e w' => e = .returned (tellRes (tellL false (120 :: 38 :: (ins ++ [59])))) ∧ Below wx.heap.size wx w') ∧
    (∀ wx, Ready wx → Calls Tryd.prog 11 #[.string σ] wx fun e w' => e = .returned (tellRes (tellL true (38 :: (ins ++ [59])))) ∧ Below wx.heap.size wx w') ∧
    (∀ wx, (Instr.slice 9 (.string σ) none (some (.int .i64 ((σ.size : Int) - 1))) none).run Tryd.prog wx = .ok (.string ⟨(38 :: ins).toArray⟩) wx) ∧
    (∀ wx, Ready wx → Calls Tryd.prog 10 #[.string ⟨(38 :: ins).toArray⟩] wx fun e w' => e = .returned (tellRes (tellL false (38 :: ins))) ∧ Below wx.heap.size wx w') := by
  have hl := h.len
  refine ⟨by rw [hσ, ba_size]; simp, ?_, ?_, ?_, ?_⟩
  · intro wx hx
    refine text_any (120 :: 38 :: (ins ++ [59])) _ ?_ wx (by simp; omega) hx
    rw [hσ]; exact ba_app2 [120] _
  · intro wx hx
    exact value_any (38 :: (ins ++ [59])) σ hσ wx (by simp; omega) hx
  · intro wx
    have hsz : σ.size = ins.length + 2 := by rw [hσ, ba_size]; simp
    rw [run_slice_string_to_if wx 9 σ .i64 _ Tryd.underlying9, if_pos (by omega)]
    have e : ((σ.size : Int) - 1).toNat = ins.length + 1 := by omega
    rw [e, hσ, extract_take _ _ (by simp)]
    have e2 : (38 :: (ins ++ [59])).take (ins.length + 1) = 38 :: ins := by simp
    rw [e2]
  · intro wx hx
    exact text_any (38 :: ins) _ rfl wx (by simp; omega) hx

theorem arr_cells (w : World) (a b c : Value) (t : TypeId) : (w.alloc (.cells #[a, b, c] t)).cell? ⟨w.heap.size, 0, none⟩ = some a ∧ (w.alloc (.cells #[a, b, c] t)).cell? ⟨w.heap.size, 1, none⟩ = some b ∧ (w.alloc (.cells #[a, b, c] t)).cell? ⟨w.heap.size, 2, none⟩ = some c := by
  have h := heap_alloc_new w (.cells #[a, b, c] t)
  refine ⟨?_, ?_, ?_⟩ <;> rw [cell_of_row _ _ _ _ _ _ h] <;> rfl

set_option maxHeartbeats 4000000 in
set_option maxRecDepth 100000 in
theorem numbers_any (z : Int) (w : World) (hR : Ready w) :
    Calls Tryd.prog 4 #[.int .i64 z] w fun e w' => e = .returned (.bool true) ∧ Below w.heap.size w w' := by
  obtain ⟨c, hcb, hw⟩ := wrap_c z
  obtain ⟨d1, ⟨dl1, di1⟩, cA⟩ := dig10_any c hcb
  obtain ⟨d2, ⟨dl2, di2⟩, cB⟩ := dig16_any c hcb
  obtain ⟨d3, ⟨dl3, di3⟩, cC⟩ := dig16u_any c hcb
  have CA := Lib.hid cA
  have CB := Lib.hid cB
  have CC := Lib.hid cC
  clear cA cB cC
  have cF := fun wx => fineR_any (c : Int) wx
  cases hfc : fineB (c : Int) with
  | true =>
    rw [hfc] at cF
    have CF := Lib.hid cF
    have CP := Lib.hid (fun wx => put_any c hfc wx)
    clear cF
    go_enter Tryd.func4, Tryd.ntmps4
    go_wp2_with fail
    refine (CA.out _).mono ?_
    rintro e w1 ⟨rfl, m, rfl⟩
    go_wp2_with fail
    refine (CF.out _).mono ?_
    rintro e w2 ⟨rfl, rfl⟩
    go_wp2_with fail
    refine (CP.out _).mono ?_
    rintro e w4 ⟨pb, pcap, rfl, hpb, hpc, hpby, hb4⟩
    have hcs := put_string w4 pb pcap _ hpby
    have HB4 := Lib.hid ((below_draw w m).trans hb4)
    clear hpby hb4
    go_wp2_with fail
    refine (CB.out _).mono ?_
    rintro e w5 ⟨rfl, m2, rfl⟩
    go_wp2_with fail
    refine (CC.out _).mono ?_
    rintro e w6 ⟨rfl, m3, rfl⟩
    go_wp2_with fail
    generalize hs1 : ((⟨#[38, 35]⟩ : ByteArray) ++ ⟨d1.toArray⟩ ++ ⟨#[59]⟩) = σ1
    generalize hs2 : ((⟨#[38, 35, 120]⟩ : ByteArray) ++ ⟨d2.toArray⟩ ++ ⟨#[59]⟩) = σ2
    generalize hs3 : ((⟨#[38, 35, 120]⟩ : ByteArray) ++ ⟨d3.toArray⟩ ++ ⟨#[59]⟩) = σ3
    obtain ⟨z1, t1, v1, l1, n1⟩ := sig_facts (35 :: d1) c di1 σ1 (by rw [← hs1]; exact (app3 [38, 35] d1 [59]).symm)
    obtain ⟨z2, t2, v2, l2, n2⟩ := sig_facts (35 :: 120 :: d2) c di2 σ2 (by rw [← hs2]; exact (app3 [38, 35, 120] d2 [59]).symm)
    obtain ⟨z3, t3, v3, l3, n3⟩ := sig_facts (35 :: 120 :: d3) c di3 σ3 (by rw [← hs3]; exact (app3 [38, 35, 120] d3 [59]).symm)
    rw [text_ins di1, if_pos hfc, tellRes_mk] at t1
    rw [text_ins di2, if_pos hfc, tellRes_mk] at t2
    rw [text_ins di3, if_pos hfc, tellRes_mk] at t3
    rw [value_ins di1, if_pos hfc, tellRes_mk] at v1
    rw [value_ins di2, if_pos hfc, tellRes_mk] at v2
    rw [value_ins di3, if_pos hfc, tellRes_mk] at v3
    rw [noend_ins di1, tellRes_mk] at n1
    rw [noend_ins di2, tellRes_mk] at n2
    rw [noend_ins di3, tellRes_mk] at n3
    have hpe : ∃ y ys, put c = y :: ys := by
      cases hp : put c with
      | nil => have := put_len c; rw [hp] at this; simp at this
      | cons y ys => exact ⟨y, ys, rfl⟩
    have e120 : (⟨(120 :: put c).toArray⟩ : ByteArray) = ⟨#[120]⟩ ++ ⟨(put c).toArray⟩ := (ba_app2 [120] (put c)).symm
    rw [e120] at t1 t2 t3
    obtain ⟨y, ys, hys⟩ := hpe
    have hyl : ys.length ≤ 3 := by have := (put_len c).2; rw [hys] at this; simp at this; omega
    rw [hys] at t1 t2 t3 v1 v2 v3
    generalize (put c).length = pN
    rw [hys]
    clear e120 hys
    have q1 : 2 ≤ σ1.size ∧ σ1.size ≤ 12 := by rw [z1]; have := di1.len; omega
    have q2 : 2 ≤ σ2.size ∧ σ2.size ≤ 12 := by rw [z2]; have := di2.len; omega
    have q3 : 2 ≤ σ3.size ∧ σ3.size ≤ 12 := by rw [z3]; have := di3.len; omega
    obtain ⟨q1a, q1b⟩ := q1
    obtain ⟨q2a, q2b⟩ := q2
    obtain ⟨q3a, q3b⟩ := q3
    have A1 := Lib.hid t1
    have A2 := Lib.hid t2
    have A3 := Lib.hid t3
    have B1 := Lib.hid v1
    have B2 := Lib.hid v2
    have B3 := Lib.hid v3
    have E1 := Lib.hid n1
    have E2 := Lib.hid n2
    have E3 := Lib.hid n3
    have L1 := Lib.hid l1
    have L2 := Lib.hid l2
    have L3 := Lib.hid l3
    clear t1 t2 t3 v1 v2 v3 n1 n2 n3 l1 l2 l3 z1 z2 z3 hs1 hs2 hs3 hcs
    have hcc := arr_cells (w4.drewN (m2 + m3)) (.string σ1) (.string σ2) (.string σ3) 9
    have hBA := ((Below.refl w4.heap.size w4).trans (below_draw w4 (m2 + m3))).alloc (Nat.le_refl _) (.cells #[.string σ1, .string σ2, .string σ3] 9)
    have hsA : ((w4.drewN (m2 + m3)).alloc (.cells #[.string σ1, .string σ2, .string σ3] 9)).heap.size = w4.heap.size + 1 := by simp
    generalize (w4.drewN (m2 + m3)).alloc (.cells #[.string σ1, .string σ2, .string σ3] 9) = W at *
    have hBW : Below w.heap.size w W := HB4.out.trans (hBA.mono HB4.out.size)
    have hcc1 : W.cell? ⟨w4.heap.size, 0, none⟩ = some (.string σ1) := hcc.1
    have hcc2 : W.cell? ⟨w4.heap.size, 1, none⟩ = some (.string σ2) := hcc.2.1
    have hcc3 : W.cell? ⟨w4.heap.size, 2, none⟩ = some (.string σ3) := hcc.2.2
    clear hcc hBA
    have HC1 := Lib.hid hcc1
    have HC2 := Lib.hid hcc2
    have HC3 := Lib.hid hcc3
    have HBW := Lib.hid hBW
    have hszW : w.heap.size ≤ w4.heap.size := HB4.out.size
    clear hcc1 hcc2 hcc3 hBW
    go_loopw [40] (fun v40 wr => ∃ k : Nat, v40 = .int .i64 k ∧ k ≤ 3 ∧ Below (w4.heap.size + 1) W wr) (fun v40 _ => 3 - (intOf v40).toNat)
    case atStart => exact ⟨0, rfl, by omega, Below.refl _ _⟩
    case round =>
      obtain ⟨k, hv, hk3, hbr⟩ := hrel
      have hbw := HBW.out.trans (hbr.mono (by omega))
      have hRr := hR.below hbw
      have hszr : w4.heap.size + 1 ≤ wr.heap.size := by have := hbr.size; omega
      have hk : k = 0 ∨ k = 1 ∨ k = 2 ∨ k = 3 := by omega
      rcases hk with rfl | rfl | rfl | rfl
      · obtain rfl : _ = Value.int .i64 0 := hv
        have hc := (hbr.cell (p := ⟨w4.heap.size, 0, none⟩) (by simp)).trans HC1.out
        have hl := L1.out
        have HBR := Lib.hid hbr
        have HW := Lib.hid hbw
        clear hbr hbw
        go_wp2_with fail
        refine (A1.out _ hRr).mono ?_
        rintro e w7 ⟨rfl, hb7⟩
        have hR7 := hRr.below hb7
        have hs7 := hb7.size
        go_wp2_with fail
        refine (B1.out _ hR7).mono ?_
        rintro e w8 ⟨rfl, hb8⟩
        have hR8 := hR7.below hb8
        have hs8 := hb8.size
        go_wp2_with fail
        refine (E1.out _ hR8).mono ?_
        rintro e w9 ⟨rfl, hb9⟩
        go_wp2
        go_roundw
        case rel => exact ⟨1, rfl, by omega, HBR.out.trans ((hb7.mono (by omega)).trans ((hb8.mono (by omega)).trans (hb9.mono (by omega))))⟩
        case measure => decide
      · obtain rfl : _ = Value.int .i64 1 := hv
        have hc := (hbr.cell (p := ⟨w4.heap.size, 1, none⟩) (by simp)).trans HC2.out
        have hl := L2.out
        have HBR := Lib.hid hbr
        have HW := Lib.hid hbw
        clear hbr hbw
        go_wp2_with fail
        refine (A2.out _ hRr).mono ?_
        rintro e w7 ⟨rfl, hb7⟩
        have hR7 := hRr.below hb7
        have hs7 := hb7.size
        go_wp2_with fail
        refine (B2.out _ hR7).mono ?_
        rintro e w8 ⟨rfl, hb8⟩
        have hR8 := hR7.below hb8
        have hs8 := hb8.size
        go_wp2_with fail
        refine (E2.out _ hR8).mono ?_
        rintro e w9 ⟨rfl, hb9⟩
        go_wp2
        go_roundw
        case rel => exact ⟨2, rfl, by omega, HBR.out.trans ((hb7.mono (by omega)).trans ((hb8.mono (by omega)).trans (hb9.mono (by omega))))⟩
        case measure => decide
      · obtain rfl : _ = Value.int .i64 2 := hv
        have hc := (hbr.cell (p := ⟨w4.heap.size, 2, none⟩) (by simp)).trans HC3.out
        have hl := L3.out
        have HBR := Lib.hid hbr
        have HW := Lib.hid hbw
        clear hbr hbw
        go_wp2_with fail
        refine (A3.out _ hRr).mono ?_
        rintro e w7 ⟨rfl, hb7⟩
        have hR7 := hRr.below hb7
        have hs7 := hb7.size
        go_wp2_with fail
        refine (B3.out _ hR7).mono ?_
        rintro e w8 ⟨rfl, hb8⟩
        have hR8 := hR7.below hb8
        have hs8 := hb8.size
        go_wp2_with fail
        refine (E3.out _ hR8).mono ?_
        rintro e w9 ⟨rfl, hb9⟩
        go_wp2
        go_roundw
        case rel => exact ⟨3, rfl, by omega, HBR.out.trans ((hb7.mono (by omega)).trans ((hb8.mono (by omega)).trans (hb9.mono (by omega))))⟩
        case measure => decide
      · obtain rfl : _ = Value.int .i64 3 := hv
        go_wp2_with fail
        refine (alive_any _ hRr).mono ?_
        rintro e w7 ⟨rfl, hb7⟩
        go_wp2
        go_ret
        exact ⟨rfl, hbw.trans (hb7.mono (by omega))⟩
  | false =>
    rw [hfc] at cF
    have CF := Lib.hid cF
    clear cF
    go_enter Tryd.func4, Tryd.ntmps4
    go_wp2_with fail
    refine (CA.out _).mono ?_
    rintro e w1 ⟨rfl, m, rfl⟩
    go_wp2_with fail
    refine (CF.out _).mono ?_
    rintro e w2 ⟨rfl, rfl⟩
    have HB4 := Lib.hid (Below.refl w.heap.size w)
    go_wp2_with fail
    refine (CB.out _).mono ?_
    rintro e w5 ⟨rfl, m2, rfl⟩
    go_wp2_with fail
    refine (CC.out _).mono ?_
    rintro e w6 ⟨rfl, m3, rfl⟩
    go_wp2_with fail
    generalize hs1 : ((⟨#[38, 35]⟩ : ByteArray) ++ ⟨d1.toArray⟩ ++ ⟨#[59]⟩) = σ1
    generalize hs2 : ((⟨#[38, 35, 120]⟩ : ByteArray) ++ ⟨d2.toArray⟩ ++ ⟨#[59]⟩) = σ2
    generalize hs3 : ((⟨#[38, 35, 120]⟩ : ByteArray) ++ ⟨d3.toArray⟩ ++ ⟨#[59]⟩) = σ3
    obtain ⟨z1, t1, v1, l1, n1⟩ := sig_facts (35 :: d1) c di1 σ1 (by rw [← hs1]; exact (app3 [38, 35] d1 [59]).symm)
    obtain ⟨z2, t2, v2, l2, n2⟩ := sig_facts (35 :: 120 :: d2) c di2 σ2 (by rw [← hs2]; exact (app3 [38, 35, 120] d2 [59]).symm)
    obtain ⟨z3, t3, v3, l3, n3⟩ := sig_facts (35 :: 120 :: d3) c di3 σ3 (by rw [← hs3]; exact (app3 [38, 35, 120] d3 [59]).symm)
    rw [text_ins di1, if_neg (by rw [hfc]; decide), tellRes_mk] at t1
    rw [text_ins di2, if_neg (by rw [hfc]; decide), tellRes_mk] at t2
    rw [text_ins di3, if_neg (by rw [hfc]; decide), tellRes_mk] at t3
    rw [value_ins di1, if_neg (by rw [hfc]; decide), tellRes_mk] at v1
    rw [value_ins di2, if_neg (by rw [hfc]; decide), tellRes_mk] at v2
    rw [value_ins di3, if_neg (by rw [hfc]; decide), tellRes_mk] at v3
    rw [noend_ins di1, tellRes_mk] at n1
    rw [noend_ins di2, tellRes_mk] at n2
    rw [noend_ins di3, tellRes_mk] at n3
    have q1 : 2 ≤ σ1.size ∧ σ1.size ≤ 12 := by rw [z1]; have := di1.len; omega
    have q2 : 2 ≤ σ2.size ∧ σ2.size ≤ 12 := by rw [z2]; have := di2.len; omega
    have q3 : 2 ≤ σ3.size ∧ σ3.size ≤ 12 := by rw [z3]; have := di3.len; omega
    obtain ⟨q1a, q1b⟩ := q1
    obtain ⟨q2a, q2b⟩ := q2
    obtain ⟨q3a, q3b⟩ := q3
    have A1 := Lib.hid t1
    have A2 := Lib.hid t2
    have A3 := Lib.hid t3
    have B1 := Lib.hid v1
    have B2 := Lib.hid v2
    have B3 := Lib.hid v3
    have E1 := Lib.hid n1
    have E2 := Lib.hid n2
    have E3 := Lib.hid n3
    have L1 := Lib.hid l1
    have L2 := Lib.hid l2
    have L3 := Lib.hid l3
    clear t1 t2 t3 v1 v2 v3 n1 n2 n3 l1 l2 l3 z1 z2 z3 hs1 hs2 hs3
    have hcc := arr_cells (w.drewN (m + m2 + m3)) (.string σ1) (.string σ2) (.string σ3) 9
    have hBA := ((Below.refl w.heap.size w).trans (below_draw w (m + m2 + m3))).alloc (Nat.le_refl _) (.cells #[.string σ1, .string σ2, .string σ3] 9)
    have hsA : ((w.drewN (m + m2 + m3)).alloc (.cells #[.string σ1, .string σ2, .string σ3] 9)).heap.size = w.heap.size + 1 := by simp
    generalize (w.drewN (m + m2 + m3)).alloc (.cells #[.string σ1, .string σ2, .string σ3] 9) = W at *
    have hBW : Below w.heap.size w W := HB4.out.trans (hBA.mono (Nat.le_refl _))
    have hcc1 : W.cell? ⟨w.heap.size, 0, none⟩ = some (.string σ1) := hcc.1
    have hcc2 : W.cell? ⟨w.heap.size, 1, none⟩ = some (.string σ2) := hcc.2.1
    have hcc3 : W.cell? ⟨w.heap.size, 2, none⟩ = some (.string σ3) := hcc.2.2
    clear hcc hBA
    have HC1 := Lib.hid hcc1
    have HC2 := Lib.hid hcc2
    have HC3 := Lib.hid hcc3
    have HBW := Lib.hid hBW
    have hszW : w.heap.size ≤ w.heap.size := (Nat.le_refl _)
    clear hcc1 hcc2 hcc3 hBW
    go_loopw [40] (fun v40 wr => ∃ k : Nat, v40 = .int .i64 k ∧ k ≤ 3 ∧ Below (w.heap.size + 1) W wr) (fun v40 _ => 3 - (intOf v40).toNat)
    case atStart => exact ⟨0, rfl, by omega, Below.refl _ _⟩
    case round =>
      obtain ⟨k, hv, hk3, hbr⟩ := hrel
      have hbw := HBW.out.trans (hbr.mono (by omega))
      have hRr := hR.below hbw
      have hszr : w.heap.size + 1 ≤ wr.heap.size := by have := hbr.size; omega
      have hk : k = 0 ∨ k = 1 ∨ k = 2 ∨ k = 3 := by omega
      rcases hk with rfl | rfl | rfl | rfl
      · obtain rfl : _ = Value.int .i64 0 := hv
        have hc := (hbr.cell (p := ⟨w.heap.size, 0, none⟩) (by simp)).trans HC1.out
        have hl := L1.out
        have HBR := Lib.hid hbr
        have HW := Lib.hid hbw
        clear hbr hbw
        go_wp2_with fail
        refine (A1.out _ hRr).mono ?_
        rintro e w7 ⟨rfl, hb7⟩
        have hR7 := hRr.below hb7
        have hs7 := hb7.size
        go_wp2_with fail
        refine (B1.out _ hR7).mono ?_
        rintro e w8 ⟨rfl, hb8⟩
        have hR8 := hR7.below hb8
        have hs8 := hb8.size
        go_wp2_with fail
        refine (E1.out _ hR8).mono ?_
        rintro e w9 ⟨rfl, hb9⟩
        go_wp2
        go_roundw
        case rel => exact ⟨1, rfl, by omega, HBR.out.trans ((hb7.mono (by omega)).trans ((hb8.mono (by omega)).trans (hb9.mono (by omega))))⟩
        case measure => decide
      · obtain rfl : _ = Value.int .i64 1 := hv
        have hc := (hbr.cell (p := ⟨w.heap.size, 1, none⟩) (by simp)).trans HC2.out
        have hl := L2.out
        have HBR := Lib.hid hbr
        have HW := Lib.hid hbw
        clear hbr hbw
        go_wp2_with fail
        refine (A2.out _ hRr).mono ?_
        rintro e w7 ⟨rfl, hb7⟩
        have hR7 := hRr.below hb7
        have hs7 := hb7.size
        go_wp2_with fail
        refine (B2.out _ hR7).mono ?_
        rintro e w8 ⟨rfl, hb8⟩
        have hR8 := hR7.below hb8
        have hs8 := hb8.size
        go_wp2_with fail
        refine (E2.out _ hR8).mono ?_
        rintro e w9 ⟨rfl, hb9⟩
        go_wp2
        go_roundw
        case rel => exact ⟨2, rfl, by omega, HBR.out.trans ((hb7.mono (by omega)).trans ((hb8.mono (by omega)).trans (hb9.mono (by omega))))⟩
        case measure => decide
      · obtain rfl : _ = Value.int .i64 2 := hv
        have hc := (hbr.cell (p := ⟨w.heap.size, 2, none⟩) (by simp)).trans HC3.out
        have hl := L3.out
        have HBR := Lib.hid hbr
        have HW := Lib.hid hbw
        clear hbr hbw
        go_wp2_with fail
        refine (A3.out _ hRr).mono ?_
        rintro e w7 ⟨rfl, hb7⟩
        have hR7 := hRr.below hb7
        have hs7 := hb7.size
        go_wp2_with fail
        refine (B3.out _ hR7).mono ?_
        rintro e w8 ⟨rfl, hb8⟩
        have hR8 := hR7.below hb8
        have hs8 := hb8.size
        go_wp2_with fail
        refine (E3.out _ hR8).mono ?_
        rintro e w9 ⟨rfl, hb9⟩
        go_wp2
        go_roundw
        case rel => exact ⟨3, rfl, by omega, HBR.out.trans ((hb7.mono (by omega)).trans ((hb8.mono (by omega)).trans (hb9.mono (by omega))))⟩
        case measure => decide
      · obtain rfl : _ = Value.int .i64 3 := hv
        go_wp2_with fail
        refine (alive_any _ hRr).mono ?_
        rintro e w7 ⟨rfl, hb7⟩
        go_wp2
        go_ret
        exact ⟨rfl, hbw.trans (hb7.mono (by omega))⟩

end Go.Proofs.YtgkfadkgkdjcoaaDoor
