/- Walks: EntityPlain. -/
import Derived.Test.YtgkfadkgkdjcoaaDoorAlive
import Derived.Test.YtgkfadkgkdjcoaaDoorBack
import Derived.Test.YtgkfadkgkdjcoaaDoorPlainp
set_option linter.unusedVariables false
set_option linter.unusedSimpArgs false
namespace Go.Proofs.YtgkfadkgkdjcoaaDoor
open Go.RowKit

theorem ba_app3 (a b c : List UInt8) : (⟨(a ++ b ++ c).toArray⟩ : ByteArray) = ⟨a.toArray⟩ ++ ⟨b.toArray⟩ ++ ⟨c.toArray⟩ := by
  apply ByteArray.ext
  simp

set_option maxHeartbeats 8000000 in
set_option maxRecDepth 100000 in
theorem plain_any (l : List UInt8) (s : ByteArray) (hs : s = ⟨l.toArray⟩) (w : World) (hR : Ready w) :
    Calls Tryd.prog 5 #[.string s] w fun e w' => e = .returned (.bool true) ∧ Below w.heap.size w w' := by
  subst hs
  by_cases hl : 1000 < l.length
  · have i1 : (1000 : Int) < (l.length : Int) := by omega
    go_enter Tryd.func5, Tryd.ntmps5
    go_wp2_with (go_at_call 9; refine (alive_any _ hR).mono ?_; rintro e w' ⟨rfl, hb⟩)
    go_ret
    exact ⟨rfl, hb⟩
  · have i1 : ¬ ((1000 : Int) < (l.length : Int)) := by omega
    have c3 := fun wx (cap : Nat) (b : Nat) (hc : l.length ≤ cap) (hm : bytesAt wx b 0 l) => checkR_any l b l.length cap rfl wx (by omega) hc hm
    obtain ⟨W1, cap, hcv, hB, hcap, hby, hsW⟩ := conv_check l (by omega) w
    have HB := Lib.hid hB
    have HBY := Lib.hid hby
    have hsW2 : w.heap.size ≤ W1.heap.size := by omega
    cases hck : (checkL l).2 with
    | false =>
      have hlt := (checkL_le l).2 hck
      generalize (checkL l).1 = p at *
      have C3 := Lib.hid c3
      have ip : ((p : Int) != (l.length : Int)) = true := by rw [bne_iff_ne]; omega
      clear hB hby hsW c3 hck
      go_enter Tryd.func5, Tryd.ntmps5
      go_wp2_with (first | (go_at_call 16; refine (C3.out _ _ _ hcap HBY.out).mono ?_; rintro e w5 ⟨rfl, hb5⟩) | (go_at_call 9; refine (alive_any _ ((hR.below HB.out).below hb5)).mono ?_; rintro e w6 ⟨rfl, hb6⟩))
      go_ret
      have hs5 := hb5.size
      exact ⟨rfl, HB.out.trans ((hb5.mono hsW2).trans (hb6.mono (by omega)))⟩
    | true =>
      obtain ⟨cs, hf, he⟩ := checkL_ok hck
      have hck2 : (checkL l).1 = l.length := by rw [he, checkL_chars cs hf]
      rw [hck2] at c3
      have C3 := Lib.hid c3
      have HE := Lib.hid he
      clear hB hby hsW c3 hck hck2 he
      go_enter Tryd.func5, Tryd.ntmps5
      go_wp2_with (go_at_call 16; refine (C3.out _ _ _ hcap HBY.out).mono ?_; rintro e w5 ⟨rfl, hb5⟩)
      have hs5 := hb5.size
      have hR5 := (hR.below HB.out).below hb5
      have hB5 := HB.out.trans (hb5.mono hsW2)
      go_loop [31] (fun v31 => ∃ pos : Nat, v31 = .int .i64 pos ∧ pos ≤ l.length ∧ Hid (∀ j (hj : j < l.length), j < pos → bad5 l[j] = false)) (fun v31 => l.length - (intOf v31).toNat)
      case atStart => exact ⟨0, rfl, by omega, Lib.hid (fun j _ h => by omega)⟩
      case round =>
        obtain ⟨pos, rfl, hpl, hno⟩ := hrel
        by_cases hp : pos < l.length
        · have hg0 : (⟨l.toArray⟩ : ByteArray)[pos]'(by rw [ba_size]; exact hp) = l[pos] := rfl
          have hlast : Hid (∀ b, l[pos] = b → bad5 b = false → ∀ j (hj : j < l.length), j < pos + 1 → bad5 l[j] = false) := Lib.hid (fun b hb hbb j hj hj2 => by
            rcases Nat.lt_or_ge j pos with h | h
            · exact hno.out j hj h
            · have : j = pos := by omega
              subst this
              rw [hb]; exact hbb)
          generalize hgb : l[pos] = b at hg0
          have HG := Lib.hid hgb
          have hin : (pos : Int) < (l.length : Int) := by omega
          have hb256 := b.toNat_lt
          clear hgb
          cases hbd : bad5 b with
          | false =>
            have hbd' := of_decide_eq_false hbd
            have k1 : ((b.toNat : Int) == 38) = false := by rw [beq_eq_false_iff_ne]; intro h; exact hbd' (Or.inl (UInt8.toNat_inj.1 (by simpa using (by omega : b.toNat = 38))))
            have k2 : ((b.toNat : Int) == 60) = false := by rw [beq_eq_false_iff_ne]; intro h; exact hbd' (Or.inr (Or.inl (UInt8.toNat_inj.1 (by simpa using (by omega : b.toNat = 60)))))
            have k3 : ((b.toNat : Int) == 13) = false := by rw [beq_eq_false_iff_ne]; intro h; exact hbd' (Or.inr (Or.inr (Or.inl (UInt8.toNat_inj.1 (by simpa using (by omega : b.toNat = 13))))))
            have k4 : ((b.toNat : Int) == 10) = false := by rw [beq_eq_false_iff_ne]; intro h; exact hbd' (Or.inr (Or.inr (Or.inr (Or.inl (UInt8.toNat_inj.1 (by simpa using (by omega : b.toNat = 10)))))))
            have k5 : ((b.toNat : Int) == 9) = false := by rw [beq_eq_false_iff_ne]; intro h; exact hbd' (Or.inr (Or.inr (Or.inr (Or.inr (UInt8.toNat_inj.1 (by simpa using (by omega : b.toNat = 9)))))))
            have HN := Lib.hid (hlast.out b HG.out hbd)
            clear hbd hbd' hno hlast
            go_wp2
            go_round
            case rel => exact ⟨pos + 1, by go_num, by omega, HN⟩
            case measure => simp [intOf]; omega
          | true =>
            have hbd' := of_decide_eq_true hbd
            clear hbd hno hlast HG
            rcases hbd' with rfl | rfl | rfl | rfl | rfl
            all_goals
              go_wp2_with (go_at_call 9; refine (alive_any _ hR5).mono ?_; rintro e w' ⟨rfl, hb⟩)
              go_ret
              exact ⟨rfl, hB5.trans (hb.mono (by omega))⟩
        · have hpe : pos = l.length := by omega
          subst hpe
          have hno2 : ∀ b ∈ chars cs, bad5 b = false := by
            intro b hb
            rw [← HE.out] at hb
            obtain ⟨j, hj, rfl⟩ := List.mem_iff_getElem.1 hb
            exact hno.out j hj hj
          have c1 := fun wx hx => text_any l ⟨l.toArray⟩ rfl wx (by omega) hx
          have c2 := fun wx hx => value_any l ⟨l.toArray⟩ rfl wx (by omega) hx
          have c4 := fun wx hx => text_any ([38, 108, 116, 59] ++ l ++ [38, 35, 120, 50, 54, 59]) (⟨#[38, 108, 116, 59]⟩ ++ ⟨l.toArray⟩ ++ ⟨#[38, 35, 120, 50, 54, 59]⟩) (ba_app3 [38, 108, 116, 59] l [38, 35, 120, 50, 54, 59]).symm wx (by simp; omega) hx
          have c5 := fun wx hx => value_any ([38, 113, 117, 111, 116, 59] ++ l ++ [38, 35, 49, 48, 59]) (⟨#[38, 113, 117, 111, 116, 59]⟩ ++ ⟨l.toArray⟩ ++ ⟨#[38, 35, 49, 48, 59]⟩) (ba_app3 [38, 113, 117, 111, 116, 59] l [38, 35, 49, 48, 59]).symm wx (by simp; omega) hx
          have p1 := plain_self false cs hf hno2
          have p2 := plain_self true cs hf hno2
          have p4 := plain_T cs hf hno2
          have p5 := plain_V cs hf hno2
          rw [← HE.out] at p1 p2 p4 p5
          rw [p1, tellRes_mk] at c1
          rw [p2, tellRes_mk] at c2
          rw [p4, tellRes_mk, ba_app3 [60] l [38]] at c4
          rw [p5, tellRes_mk, ba_app3 [34] l [10]] at c5
          have C1 := Lib.hid c1
          have C2 := Lib.hid c2
          have C4 := Lib.hid c4
          have C5 := Lib.hid c5
          clear c1 c2 c4 c5 p1 p2 p4 p5 hno2 hno
          go_wp2_with fail
          refine (C1.out _ hR5).mono ?_
          rintro e w1 ⟨rfl, hb1⟩
          have hR1 := hR5.below hb1
          have hs1 := hb1.size
          go_wp2_with fail
          refine (C2.out _ hR1).mono ?_
          rintro e w2 ⟨rfl, hb2⟩
          have hR2 := hR1.below hb2
          have hs2 := hb2.size
          go_wp2_with fail
          refine (C4.out _ hR2).mono ?_
          rintro e w3 ⟨rfl, hb3⟩
          have hR3 := hR2.below hb3
          have hs3 := hb3.size
          go_wp2_with fail
          refine (C5.out _ hR3).mono ?_
          rintro e w4 ⟨rfl, hb4⟩
          have hR4 := hR3.below hb4
          have hs4 := hb4.size
          go_wp2_with fail
          refine (alive_any _ hR4).mono ?_
          rintro e w6 ⟨rfl, hb6⟩
          go_wp2
          go_ret
          exact ⟨rfl, hB5.trans (((hb1.trans ((hb2.mono hs1).trans ((hb3.mono (by omega)).trans ((hb4.mono (by omega)).trans (hb6.mono (by omega))))))).mono (by omega))⟩

end Go.Proofs.YtgkfadkgkdjcoaaDoor
