/- Walks: a number's digits (tipstavelaw03.digits). -/
import Derived.Test.YtgkfadkgkdjcoaaDoorNmp
import Derived.Test.YtgkfadkgkdjcoaaDoorDoc
set_option linter.unusedVariables false
set_option linter.unusedSimpArgs false
namespace Go.Proofs.YtgkfadkgkdjcoaaDoor
open Go.RowKit

theorem digF10_less {tb : List UInt8} {f n : Nat} (h : n < 10) : digF 10 tb (f + 1) n = [tb.getD n 0] := by
  unfold digF; rw [if_pos h]
theorem digF10_more {tb : List UInt8} {f n : Nat} (h : ¬ n < 10) : digF 10 tb (f + 1) n = digF 10 tb f (n / 10) ++ [tb.getD (n % 10) 0] := by
  conv => lhs; unfold digF
  rw [if_neg h]

/-- What a round leaves. -/
def ok10 (tb : List UInt8) (R : List UInt8) (n : Nat) (acc : List UInt8) : Prop :=
  (∃ fu, n < 10 ^ (fu + 1) ∧ (0 < n ∨ acc = []) ∧ R = digF 10 tb (fu + 1) n ++ acc) ∨ (n = 0 ∧ acc ≠ [] ∧ R = acc)

theorem ok10_step {tb R : List UInt8} {n : Nat} {acc : List UInt8} (h : ok10 tb R n acc) (hgo : 0 < n ∨ acc = []) : ok10 tb R (n / 10) (tb.getD (n % 10) 0 :: acc) := by
  rcases h with ⟨fu, h1, h2, h3⟩ | ⟨h1, h2, h3⟩
  · by_cases hn : n < 10
    · right
      have e : n % 10 = n := Nat.mod_eq_of_lt hn
      refine ⟨Nat.div_eq_of_lt hn, by simp, ?_⟩
      rw [h3, digF10_less hn, e]; rfl
    · left
      cases fu with
      | zero => simp at h1; omega
      | succ fu =>
        refine ⟨fu, ?_, Or.inl (by omega), ?_⟩
        · rw [Nat.div_lt_iff_lt_mul (by omega)]
          rw [Nat.pow_succ] at h1; exact h1
        · rw [h3, digF10_more hn, List.append_assoc]; rfl
  · exfalso
    rcases hgo with h | h
    · omega
    · exact h2 h

set_option maxHeartbeats 2000000 in
set_option maxRecDepth 100000 in
theorem digits10_any (tb : List UInt8) (htb : tb.length = 10) (c : Nat) (hc : c < 2097152) (f : Nat) (hcf : c < 10 ^ (f + 1)) (hlen : (digF 10 tb (f + 1) c).length ≤ 100) (t : ByteArray) (ht : t = ⟨tb.toArray⟩) (w : World) :
    Calls Tryd.prog 13 #[.int .i64 c, .int .i64 10, .string t] w fun e w' => e = .returned (.string ⟨(digF 10 tb (f + 1) c).toArray⟩) ∧ ∃ m, w' = w.drewN m := by
  subst ht
  generalize hR : digF 10 tb (f + 1) c = R at *
  have hst : Hid (ok10 tb R c []) := Lib.hid (Or.inl ⟨f, hcf, Or.inr rfl, by rw [hR]; simp⟩)
  clear hcf hR
  go_enter Tryd.func13, Tryd.ntmps13
  go_wp2
  go_loopw [0, 7] (fun v0 v7 wr => ∃ (n m : Nat) (acc : List UInt8), v0 = .int .i64 n ∧ v7 = .string ⟨acc.toArray⟩ ∧ wr = w.drewN m ∧ n < 2097152 ∧ Hid (ok10 tb R n acc)) (fun v0 v7 _ => (intOf v0).toNat + (1 - strLen v7))
  case atStart => exact ⟨c, 0, [], rfl, rfl, rfl, hc, hst⟩
  case round =>
    obtain ⟨n, m, acc, rfl, rfl, rfl, hn, hok⟩ := hrel
    have hal : acc.length ≤ 100 := by
      rcases hok.out with ⟨_, _, _, h3⟩ | ⟨_, _, h3⟩
      · rw [h3, List.length_append] at hlen; omega
      · rw [h3] at hlen; exact hlen
    obtain ⟨r, hr⟩ : ∃ r, r = n % 10 := ⟨_, rfl⟩
    obtain ⟨q, hq⟩ : ∃ q, q = n / 10 := ⟨_, rfl⟩
    have hr2 : (n : Int).tmod 10 = (r : Int) := by rw [Int.tmod_eq_emod_of_nonneg (by omega), hr]; omega
    have hq2 : (n : Int).tdiv 10 = (q : Int) := by rw [Int.tdiv_eq_ediv_of_nonneg (by omega), hq]; omega
    have hrb : r < tb.length := by omega
    obtain ⟨b, hb⟩ : ∃ b, tb[r] = b := ⟨_, rfl⟩
    have hsl := fun wx => one_slice tb r hrb b hb wx
    have hgd : tb.getD r 0 = b := by simp [List.getD, hrb, hb]
    have hstep := fun h => ok10_step hok.out h
    rw [← hr, ← hq, hgd] at hstep
    have hql : 0 < n → q < n := fun h => by omega
    have hrB : r < 10 := by omega
    have hz0 : n = 0 → r = 0 ∧ q = 0 := fun h => by omega
    have hqn : q ≤ n := by omega
    have hri : ((r : Int) + 1) < 100 := by omega
    have hwr : IntKind.i64.wrap ((r : Int) + 1) = (r : Int) + 1 := by rw [IntKind.wrap_i64]; omega
    clear hr hq hgd hb
    by_cases h0 : 0 < n
    · have HS := Lib.hid (hstep (Or.inl h0))
      have hq3 := hql h0
      have i0 : (0 : Int) < (n : Int) := by omega
      clear hstep hql hok h0 htb hz0
      go_wp2
      go_quiet (fail)
      go_wp2
      go_roundw
      case rel => exact ⟨q, _, b :: acc, rfl, congrArg Value.string (ba_app2 [b] acc), rfl, by omega, HS⟩
      case measure => simp [intOf, strLen, ByteArray.size_append, ba_size]; omega
    · have hn0 : n = 0 := by omega
      subst hn0
      obtain ⟨hr0, hq0⟩ := hz0 rfl
      subst hr0 hq0
      have hsl0 : ∀ wx, (Instr.slice 9 (.string ⟨tb.toArray⟩) (some (.int .i64 0)) (some (.int .i64 1)) none).run Tryd.prog wx = .ok (.string ⟨#[b]⟩) wx := fun wx => hsl wx
      clear hz0 hsl
      cases acc with
      | nil =>
        have HS := Lib.hid (hstep (Or.inr rfl))
        clear hstep hql hok h0 htb
        go_wp2
        go_quiet (fail)
        go_wp2
        go_roundw
        case rel => exact ⟨0, _, [b], rfl, rfl, rfl, by omega, HS⟩
        case measure => simp [intOf, strLen, ByteArray.size_append, ba_size]
      | cons x acc =>
        have HF : Hid (R = x :: acc) := Lib.hid (by
          rcases hok.out with ⟨fu, h1, h2, h3⟩ | ⟨h1, h2, h3⟩
          · rcases h2 with h | h
            · omega
            · cases h
          · exact h3)
        clear hstep hql hok h0 htb
        go_wp2
        go_ret
        exact ⟨by rw [HF.out]; rfl, _, rfl⟩

theorem digF16_less {tb : List UInt8} {f n : Nat} (h : n < 16) : digF 16 tb (f + 1) n = [tb.getD n 0] := by
  unfold digF; rw [if_pos h]
theorem digF16_more {tb : List UInt8} {f n : Nat} (h : ¬ n < 16) : digF 16 tb (f + 1) n = digF 16 tb f (n / 16) ++ [tb.getD (n % 16) 0] := by
  conv => lhs; unfold digF
  rw [if_neg h]

/-- What a round leaves. -/
def ok16 (tb : List UInt8) (R : List UInt8) (n : Nat) (acc : List UInt8) : Prop :=
  (∃ fu, n < 16 ^ (fu + 1) ∧ (0 < n ∨ acc = []) ∧ R = digF 16 tb (fu + 1) n ++ acc) ∨ (n = 0 ∧ acc ≠ [] ∧ R = acc)

theorem ok16_step {tb R : List UInt8} {n : Nat} {acc : List UInt8} (h : ok16 tb R n acc) (hgo : 0 < n ∨ acc = []) : ok16 tb R (n / 16) (tb.getD (n % 16) 0 :: acc) := by
  rcases h with ⟨fu, h1, h2, h3⟩ | ⟨h1, h2, h3⟩
  · by_cases hn : n < 16
    · right
      have e : n % 16 = n := Nat.mod_eq_of_lt hn
      refine ⟨Nat.div_eq_of_lt hn, by simp, ?_⟩
      rw [h3, digF16_less hn, e]; rfl
    · left
      cases fu with
      | zero => simp at h1; omega
      | succ fu =>
        refine ⟨fu, ?_, Or.inl (by omega), ?_⟩
        · rw [Nat.div_lt_iff_lt_mul (by omega)]
          rw [Nat.pow_succ] at h1; exact h1
        · rw [h3, digF16_more hn, List.append_assoc]; rfl
  · exfalso
    rcases hgo with h | h
    · omega
    · exact h2 h

set_option maxHeartbeats 2000000 in
set_option maxRecDepth 100000 in
theorem digits16_any (tb : List UInt8) (htb : tb.length = 16) (c : Nat) (hc : c < 2097152) (f : Nat) (hcf : c < 16 ^ (f + 1)) (hlen : (digF 16 tb (f + 1) c).length ≤ 100) (t : ByteArray) (ht : t = ⟨tb.toArray⟩) (w : World) :
    Calls Tryd.prog 13 #[.int .i64 c, .int .i64 16, .string t] w fun e w' => e = .returned (.string ⟨(digF 16 tb (f + 1) c).toArray⟩) ∧ ∃ m, w' = w.drewN m := by
  subst ht
  generalize hR : digF 16 tb (f + 1) c = R at *
  have hst : Hid (ok16 tb R c []) := Lib.hid (Or.inl ⟨f, hcf, Or.inr rfl, by rw [hR]; simp⟩)
  clear hcf hR
  go_enter Tryd.func13, Tryd.ntmps13
  go_wp2
  go_loopw [0, 7] (fun v0 v7 wr => ∃ (n m : Nat) (acc : List UInt8), v0 = .int .i64 n ∧ v7 = .string ⟨acc.toArray⟩ ∧ wr = w.drewN m ∧ n < 2097152 ∧ Hid (ok16 tb R n acc)) (fun v0 v7 _ => (intOf v0).toNat + (1 - strLen v7))
  case atStart => exact ⟨c, 0, [], rfl, rfl, rfl, hc, hst⟩
  case round =>
    obtain ⟨n, m, acc, rfl, rfl, rfl, hn, hok⟩ := hrel
    have hal : acc.length ≤ 100 := by
      rcases hok.out with ⟨_, _, _, h3⟩ | ⟨_, _, h3⟩
      · rw [h3, List.length_append] at hlen; omega
      · rw [h3] at hlen; exact hlen
    obtain ⟨r, hr⟩ : ∃ r, r = n % 16 := ⟨_, rfl⟩
    obtain ⟨q, hq⟩ : ∃ q, q = n / 16 := ⟨_, rfl⟩
    have hr2 : (n : Int).tmod 16 = (r : Int) := by rw [Int.tmod_eq_emod_of_nonneg (by omega), hr]; omega
    have hq2 : (n : Int).tdiv 16 = (q : Int) := by rw [Int.tdiv_eq_ediv_of_nonneg (by omega), hq]; omega
    have hrb : r < tb.length := by omega
    obtain ⟨b, hb⟩ : ∃ b, tb[r] = b := ⟨_, rfl⟩
    have hsl := fun wx => one_slice tb r hrb b hb wx
    have hgd : tb.getD r 0 = b := by simp [List.getD, hrb, hb]
    have hstep := fun h => ok16_step hok.out h
    rw [← hr, ← hq, hgd] at hstep
    have hql : 0 < n → q < n := fun h => by omega
    have hrB : r < 16 := by omega
    have hz0 : n = 0 → r = 0 ∧ q = 0 := fun h => by omega
    have hqn : q ≤ n := by omega
    have hri : ((r : Int) + 1) < 100 := by omega
    have hwr : IntKind.i64.wrap ((r : Int) + 1) = (r : Int) + 1 := by rw [IntKind.wrap_i64]; omega
    clear hr hq hgd hb
    by_cases h0 : 0 < n
    · have HS := Lib.hid (hstep (Or.inl h0))
      have hq3 := hql h0
      have i0 : (0 : Int) < (n : Int) := by omega
      clear hstep hql hok h0 htb hz0
      go_wp2
      go_quiet (fail)
      go_wp2
      go_roundw
      case rel => exact ⟨q, _, b :: acc, rfl, congrArg Value.string (ba_app2 [b] acc), rfl, by omega, HS⟩
      case measure => simp [intOf, strLen, ByteArray.size_append, ba_size]; omega
    · have hn0 : n = 0 := by omega
      subst hn0
      obtain ⟨hr0, hq0⟩ := hz0 rfl
      subst hr0 hq0
      have hsl0 : ∀ wx, (Instr.slice 9 (.string ⟨tb.toArray⟩) (some (.int .i64 0)) (some (.int .i64 1)) none).run Tryd.prog wx = .ok (.string ⟨#[b]⟩) wx := fun wx => hsl wx
      clear hz0 hsl
      cases acc with
      | nil =>
        have HS := Lib.hid (hstep (Or.inr rfl))
        clear hstep hql hok h0 htb
        go_wp2
        go_quiet (fail)
        go_wp2
        go_roundw
        case rel => exact ⟨0, _, [b], rfl, rfl, rfl, by omega, HS⟩
        case measure => simp [intOf, strLen, ByteArray.size_append, ba_size]
      | cons x acc =>
        have HF : Hid (R = x :: acc) := Lib.hid (by
          rcases hok.out with ⟨fu, h1, h2, h3⟩ | ⟨h1, h2, h3⟩
          · rcases h2 with h | h
            · omega
            · cases h
          · exact h3)
        clear hstep hql hok h0 htb
        go_wp2
        go_ret
        exact ⟨by rw [HF.out]; rfl, _, rfl⟩

end Go.Proofs.YtgkfadkgkdjcoaaDoor
