/- XmltokTags: whatever the input, the law returns true, and the input reads as it did: the row, and its card, tied to the program's text. Conditions: those of the given row (the listed tables of Go's library, laid by the program's own text). -/
import Derived.Test.YtfnmhdnlogfbdaaGreatDoorTagw
import Derived.Test.YtfnmhdnlogfbdaaGreatDoorRowk
import Derived.Test.YtfnmhdnlogfbdaaGreatDoorCards
import Derived.Test.YtfnmhdnlogfbdaaGreatDoorTie
import Derived.SevenTiedAt
set_option linter.unusedVariables false
set_option linter.unusedSimpArgs false
namespace Go.Proofs.YtfnmhdnlogfbdaaGreatDoor.xmltokTags
open Go Go.ChangeShapes Go.WideShapes Go.ChangeAt Go.RowKit

theorem laid_plain (W : World) : laidMetH Tryz.prog Rows.xmltokTagsRow.laid W = laidMet Tryz.prog Rows.xmltokTagsRow.laid W := by
  rw [MakeChecks.laidMetH_plain _ _ _ (by kernel_rfl)]

set_option maxRecDepth 100000 in
theorem open_arr2 {H : Type} {enc : TypeId × Value → H} {W : World} {r : Reach} {b0 base : Nat} {sp : Nat → Bool} {held : Bool} {v : Value} {d : DataW H} {ps : List MemPlace} (hval : Value.okWide Tryz.prog W r b0 39 v) (hd : DataW.Trod enc Tryz.prog W base sp held 39 v d ps) :
    ∃ s0 s1 : ByteArray, v = .agg #[.string s0, .string s1] ∧ ps = [] := by
  unfold Value.okWide at hval
  rw [Tryz.underlying39] at hval
  obtain ⟨cs, rfl, hsz, _⟩ := hval
  obtain ⟨fuel, hf⟩ := hd
  obtain ⟨xs, m, rfl, hx, hl, hxl, hi⟩ := DataW.trod_array Tryz.underlying39 hf
  have c1 : Tryz.prog.cellsOf 9 = 1 := by kernel_rfl
  have c2 : Tryz.prog.cellsOf 39 = 2 := by kernel_rfl
  rw [c2] at hsz
  have e0 := hi 0 (by decide)
  have e1 := hi 1 (by decide)
  rw [c1] at e0 e1
  match xs, hxl with
  | [x0, x1], _ =>
    obtain ⟨s0, g0, hx0, _⟩ := DataW.trod_string Tryz.underlying9 (x := x0) e0
    obtain ⟨s1, g1, hx1, _⟩ := DataW.trod_string Tryz.underlying9 (x := x1) e1
    refine ⟨s0, s1, ?_, ?_⟩
    · obtain ⟨l⟩ := cs
      have hl2 : l.length = 2 := by simpa using hsz
      match l, hl2 with
      | [y0, y1], _ =>
        simp [Value.cells] at g0 g1
        rw [g0, g1]
    · have hp := congrArg Prod.snd hx
      simp only [] at hp
      rw [hp, hx0, hx1]
      rfl

set_option maxRecDepth 100000 in
theorem contract (H : Type) (enc : TypeId × Value → H) (W : World) (base : Nat) (args : Array Value) (ds gs : List (DataW H)) (before : List MemPlace)
    (hval : ∀ (j : Nat) t v, Tryz.f6.params[j]? = some t → args[j]? = some v → Value.okWide Tryz.prog W .any base t v)
    (hW : DataW.Whole enc Tryz.prog Tryz.f6.params.toList Rows.xmltokTagsSpec.vars false W args.toList ds gs before) (hsh : W.ShapedOpen Tryz.prog) (hL : laidMetH Tryz.prog Rows.xmltokTagsRow.laid W) :
    Calls Tryz.prog 6 args W fun e W' => ∃ v, e = .returned v ∧ Rows.xmltokTagsSpec.post enc Tryz.prog Tryz.f6 false true false false W args v W' := by
  rw [laid_plain] at hL
  have hR : Ready W := ready_of hsh hL (by first | exact List.mem_of_getElem? (i := 0) rfl | exact List.mem_of_getElem? (i := 1) rfl | exact List.mem_of_getElem? (i := 2) rfl | exact List.mem_of_getElem? (i := 3) rfl | exact List.mem_of_getElem? (i := 4) rfl | exact List.mem_of_getElem? (i := 5) rfl | exact List.mem_of_getElem? (i := 6) rfl | exact List.mem_of_getElem? (i := 7) rfl | exact List.mem_of_getElem? (i := 8) rfl | exact List.mem_of_getElem? (i := 9) rfl | exact List.mem_of_getElem? (i := 10) rfl | exact List.mem_of_getElem? (i := 11) rfl) (by first | exact List.mem_of_getElem? (i := 0) rfl | exact List.mem_of_getElem? (i := 1) rfl | exact List.mem_of_getElem? (i := 2) rfl | exact List.mem_of_getElem? (i := 3) rfl | exact List.mem_of_getElem? (i := 4) rfl | exact List.mem_of_getElem? (i := 5) rfl | exact List.mem_of_getElem? (i := 6) rfl | exact List.mem_of_getElem? (i := 7) rfl | exact List.mem_of_getElem? (i := 8) rfl | exact List.mem_of_getElem? (i := 9) rfl | exact List.mem_of_getElem? (i := 10) rfl | exact List.mem_of_getElem? (i := 11) rfl)
  have hW' := hW
  obtain ⟨p, q, hA0, hV, rfl, hfz, hnd⟩ := hW
  have hA : DataW.TrodAll enc Tryz.prog W 0 (fun _ => true) true Tryz.f6.params.toList args.toList ds p := hA0
  rw [Tryz.params6] at hA hval
  obtain ⟨v0, vs0, d0, ds0, p0, q0, hargs, rfl, rfl, h0, r0⟩ := trodAll_cons hA
  obtain ⟨v1, vs1, d1, ds1, p1, q1, rfl, rfl, rfl, h1, r1⟩ := trodAll_cons r0
  obtain ⟨v2, vs2, d2, ds2, p2, q2, rfl, rfl, rfl, h2, r2⟩ := trodAll_cons r1
  obtain ⟨rfl, rfl, rfl⟩ := trodAll_nil r2
  obtain rfl : args = #[v0, v1, v2] := by cases args; simp_all
  obtain ⟨rfl, rfl⟩ := trodVars_none hV
  obtain ⟨s0, s1, rfl, rfl⟩ := open_arr2 (hval 0 39 v0 rfl rfl) h0
  obtain ⟨s2, rfl, rfl, rfl, hs2⟩ := Go.ChangeMaps.open_string Tryz.underlying9 (hval 1 9 v1 rfl rfl) h1
  obtain ⟨n, rfl, rfl, rfl, hwf⟩ := open_int Tryz.underlying5 (hval 2 5 v2 rfl rfl) h2
  obtain ⟨hn0, hn1⟩ := bounds_u8 hwf
  obtain ⟨k, rfl⟩ : ∃ k : Nat, n = (k : Int) := ⟨n.toNat, by omega⟩
  clear hA0
  simp only [List.append_nil] at hW'
  have hT := tags_any s0.data.toList s1.data.toList s2.data.toList k (by omega) W hR
  refine Calls.mono hT fun e W' ⟨he, hg⟩ => ?_
  subst he
  exact ⟨_, rfl, _, _, _, [], [], [], hW', trodAll_cons_mk (shut_bool Tryz.underlying4 _) trodAll_mk0, trodAll_cons_mk (Below.trod (by kernel_rfl) (by kernel_rfl) (of_decide_eq_true (by kernel_rfl)) h0 hg (fun x hx => (List.not_mem_nil hx).elim)) (trodAll_cons_mk (Go.ChangeMaps.shut_string Tryz.underlying9 hs2) (trodAll_cons_mk (shut_int Tryz.underlying5 hwf) trodAll_mk0)), rfl, hg.frame _, fun h => by cases h⟩

set_option maxRecDepth 100000 in
theorem laid_met (os : Os) (args : Array Value) : laidMet Tryz.prog Rows.xmltokTagsRow.laid ((World.laidAll Tryz.prog os Rows.xmltokTagsRow.laid).forCall (fun _ _ => 0) ⟨#[], args, []⟩).memory :=
  laidMet_laidAll _ (by kernel_rfl) (by kernel_rfl)

set_option maxRecDepth 100000 in
theorem lifted (os : Os) (started : os.Started) (H : Type) (enc : TypeId × Value → H) (F : Stop.Interp) :
    ReturnsInHanded {} Tryz.checked os 6 .any ((OpenSpec.ofChange Rows.xmltokTagsSpec).preRow enc Tryz.prog Tryz.f6 Rows.xmltokTagsRow.domain false Rows.xmltokTagsRow.laid) (((OpenSpec.ofChange Rows.xmltokTagsSpec).at F).post enc Tryz.prog Tryz.f6 false true false false) := by
  obtain ⟨places, hx⟩ : ∃ places, DataW.whole enc Tryz.prog ((World.laidAll Tryz.prog os Rows.xmltokTagsRow.laid).forCall (fun _ _ => 0) ⟨#[], #[.agg #[.string ⟨#[]⟩, .string ⟨#[]⟩], .string ⟨#[]⟩, .int .u8 0], []⟩).memory Tryz.f6.params.toList Rows.xmltokTagsSpec.vars false #[(.agg #[.string ⟨#[]⟩, .string ⟨#[]⟩] : Value), .string ⟨#[]⟩, .int .u8 0].toList 8 = some ([.agg [.lit (.string []), .lit (.string [])], .lit (.string []), .lit (.int .u8 0)], [], places) := ⟨[], by kernel_rfl⟩
  refine returnsInHanded_of_row (C := Tryz.checked) (s := OpenSpec.ofChange Rows.xmltokTagsSpec) own started (by kernel_rfl) Tryz.func6 ?_ ?_
  · refine ⟨World.laidAll Tryz.prog os Rows.xmltokTagsRow.laid, fun _ _ => 0, ⟨#[], #[.agg #[.string ⟨#[]⟩, .string ⟨#[]⟩], .string ⟨#[]⟩, .int .u8 0], []⟩, World.laidAll_os _ _ _, World.shaped_of_ZipB (by kernel_rfl) (by kernel_rfl), rfl, ?_, ?_, ?_⟩
    · exact (Input.okWide_of_okWideB (base := (World.laidAll Tryz.prog os Rows.xmltokTagsRow.laid).heap.size) (by kernel_rfl)).2
    · exact OpenSpec.preRow_of_cond 8 hx (by kernel_rfl) (fun k hk => by cases hk) (by kernel_rfl) (laid_met os _)
    · exact (by simp only [Assume.holds]; exact ⟨by simp, by simp, fun h => absurd h (by decide), by simp, by simp⟩)
  · intro W base args ds gs before hval hW _ _ _ hL hsh _
    exact contract H enc W base args ds gs before hval hW hsh hL

theorem said : Rows.XmltokTagsSaid :=
  OpenClaim.holds_of_cond 6 Tryz.f6 rfl rfl rfl rfl rfl rfl rfl ⟨rfl, rfl, rfl, rfl, rfl⟩ rfl rfl rfl rfl rfl (by kernel_rfl) Tryz.func6 (by kernel_rfl)
    (of_decide_eq_true (by kernel_rfl)) (by unfold Func.isWrapper; first | (rw [if_pos (by decide +kernel)]; kernel_rfl) | (rw [if_neg (by decide +kernel)]; exact ⟨rfl, rfl⟩))
    (fun os started H enc _ F => by rw [OpenClaim.pre_eq_preRow]; exact lifted os started H enc F)

theorem plain (f : FuncId) (fn : Func) (hf : Tryz.pinned.checked.prog.funcNamed "tipstave/tipstavelaw04.XmltokTags" = some f) (hfn : Tryz.pinned.checked.prog.funcs[f]? = some fn) :
    true = Tryz.pinned.checked.prog.looks [] ∧ ∀ (j : Nat) t, fn.params[j]? = some t → Tryz.pinned.checked.prog.wantsStandIn t = false := by
  obtain rfl : f = 6 := Option.some.inj ((show Tryz.prog.funcNamed "tipstave/tipstavelaw04.XmltokTags" = some 6 by kernel_rfl).symm.trans hf) |>.symm
  obtain rfl : fn = Tryz.f6 := (Option.some.inj (Tryz.func6.symm.trans hfn)).symm
  refine ⟨by kernel_rfl, fun j t ht => ?_⟩
  rw [Tryz.params6] at ht
  have hm : t = 39 ∨ t = 9 ∨ t = 5 := by simpa using Array.mem_of_getElem? ht
  rcases hm with rfl | rfl | rfl
  · exact (show Tryz.prog.wantsStandIn 39 = false by kernel_rfl)
  · exact (show Tryz.prog.wantsStandIn 9 = false by kernel_rfl)
  · exact (show Tryz.prog.wantsStandIn 5 = false by kernel_rfl)

theorem card : Rows.XmltokTagsCardSaid :=
  Claim7.holds_tied_plain_at .later [] _ _ _ _ said (fun _ h => by cases h) (by kernel_rfl) (fun _ h => by cases h) xmltokTags_row_tie rfl ⟨rfl, rfl⟩ (by kernel_rfl) rfl plain (by kernel_rfl)
#print axioms card
end Go.Proofs.YtfnmhdnlogfbdaaGreatDoor.xmltokTags
