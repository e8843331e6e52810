/- XmltokWrites: whatever the input of bulk at most the given bound, the law returns true, and the input reads as it did: the row of the second form, and its card, tied to the program's text. Conditions: those of the given row (the bound; the listed tables of Go's library, laid by the program's own text). -/
import Derived.Test.YtblhpkcdemefaaaGreatDoorWrl
import Derived.Test.YtblhpkcdemefaaaGreatDoorDp
import Derived.Test.YtblhpkcdemefaaaGreatDoorRowk
import Derived.Test.YtblhpkcdemefaaaGreatDoorCards
import Derived.Test.YtblhpkcdemefaaaGreatDoorTie
import Derived.SevenTiedAt
set_option linter.unusedVariables false
set_option linter.unusedSimpArgs false
namespace Go.Proofs.YtblhpkcdemefaaaGreatDoor.xmltokWrites
open Go Go.ChangeShapes Go.WideShapes Go.ChangeAt Go.RowKit

theorem laid_plain (W : World) : laidMetH Tryz.prog Rows.xmltokWritesUptoRow.laid W = laidMet Tryz.prog Rows.xmltokWritesUptoRow.laid W := by
  rw [MakeChecks.laidMetH_plain _ _ _ (by kernel_rfl)]

set_option maxRecDepth 100000 in
theorem contract (H : Type) (enc : TypeId × Value → H) (W : World) (base : Nat) (args : Array Value) (ds gs : List (DataW H)) (before : List MemPlace)
    (hval : ∀ (j : Nat) t v, Tryz.f5.params[j]? = some t → args[j]? = some v → Value.okWide Tryz.prog W .any base t v)
    (hW : DataW.Whole enc Tryz.prog Tryz.f5.params.toList Rows.xmltokWritesSpec.vars false W args.toList ds gs before) (hk : Rows.uptoSmall H (ds ++ gs) = true) (hsh : W.ShapedOpen Tryz.prog) (hL : laidMetH Tryz.prog Rows.xmltokWritesUptoRow.laid W) :
    Calls Tryz.prog 5 args W fun e W' => ∃ v, e = .returned v ∧ Rows.xmltokWritesSpec.post enc Tryz.prog Tryz.f5 false true false false W args v W' := by
  rw [laid_plain] at hL
  have hR : Ready W := ready_of hsh hL (by first | exact List.mem_of_getElem? (i := 0) rfl | exact List.mem_of_getElem? (i := 1) rfl | exact List.mem_of_getElem? (i := 2) rfl | exact List.mem_of_getElem? (i := 3) rfl | exact List.mem_of_getElem? (i := 4) rfl | exact List.mem_of_getElem? (i := 5) rfl | exact List.mem_of_getElem? (i := 6) rfl | exact List.mem_of_getElem? (i := 7) rfl | exact List.mem_of_getElem? (i := 8) rfl | exact List.mem_of_getElem? (i := 9) rfl | exact List.mem_of_getElem? (i := 10) rfl | exact List.mem_of_getElem? (i := 11) rfl) (by first | exact List.mem_of_getElem? (i := 0) rfl | exact List.mem_of_getElem? (i := 1) rfl | exact List.mem_of_getElem? (i := 2) rfl | exact List.mem_of_getElem? (i := 3) rfl | exact List.mem_of_getElem? (i := 4) rfl | exact List.mem_of_getElem? (i := 5) rfl | exact List.mem_of_getElem? (i := 6) rfl | exact List.mem_of_getElem? (i := 7) rfl | exact List.mem_of_getElem? (i := 8) rfl | exact List.mem_of_getElem? (i := 9) rfl | exact List.mem_of_getElem? (i := 10) rfl | exact List.mem_of_getElem? (i := 11) rfl)
  have hW' := hW
  obtain ⟨p, q, hA0, hV, rfl, hfz, hnd⟩ := hW
  have hA : DataW.TrodAll enc Tryz.prog W 0 (fun _ => true) true Tryz.f5.params.toList args.toList ds p := hA0
  rw [Tryz.params5] at hA hval
  obtain ⟨v0, vs0, d0, ds0, p0, q0, hargs, rfl, rfl, h0, r0⟩ := trodAll_cons hA
  obtain ⟨v1, vs1, d1, ds1, p1, q1, rfl, rfl, rfl, h1, r1⟩ := trodAll_cons r0
  obtain ⟨rfl, rfl, rfl⟩ := trodAll_nil r1
  obtain rfl : args = #[v0, v1] := by cases args; simp_all
  obtain ⟨rfl, rfl⟩ := trodVars_none hV
  have h0k := h0
  have h1k := h1
  obtain ⟨a0, n0, c0, rfl⟩ := okWide_slice Tryz.underlying24 (hval 0 24 v0 rfl rfl)
  obtain ⟨l0, hT0, hsz0⟩ := open_toks h0 (by simp [Value.cells])
  obtain ⟨a1, n1, c1, rfl⟩ := okWide_slice Tryz.underlying24 (hval 1 24 v1 rfl rfl)
  obtain ⟨l1, hT1, hsz1⟩ := open_toks h1 (by simp [Value.cells])
  have hb := of_decide_eq_true hk
  simp only [List.cons_append, List.nil_append, Rows.uptoBulkAll] at hb
  clear hA0
  have hlt : ∀ x ∈ p0 ++ p1, x.block < W.heap.size := fun x hx => hW'.lt x (by simp only [List.append_nil, List.mem_append] at hx ⊢; rcases hx with hx | hx <;> simp [hx])
  simp only [List.append_nil] at hW'
  refine Calls.mono (writes_any l0 l1 _ _ W hT0 hT1 hR (by omega)) fun e W' ⟨he, hg⟩ => ?_
  subst he
  have hres := trodAll_cons_mk (Below.trod (by kernel_rfl) (by kernel_rfl) (of_decide_eq_true (by kernel_rfl)) h0k hg (fun x hx => hlt x (List.mem_append.2 (Or.inl hx)))) (trodAll_cons_mk (Below.trod (by kernel_rfl) (by kernel_rfl) (of_decide_eq_true (by kernel_rfl)) h1k hg (fun x hx => hlt x (List.mem_append.2 (Or.inr hx)))) (trodAll_mk0))
  simp only [List.append_nil] at hres
  exact ⟨_, rfl, _, _, _, [], _, [], hW', trodAll_cons_mk (shut_bool Tryz.underlying4 _) trodAll_mk0, hres, rfl, hg.frame _, fun h => by cases h⟩

set_option maxRecDepth 100000 in
theorem laid_met (os : Os) (args : Array Value) : laidMet Tryz.prog Rows.xmltokWritesUptoRow.laid ((World.laidAll Tryz.prog os Rows.xmltokWritesUptoRow.laid).forCall (fun _ _ => 0) ⟨#[], args, []⟩).memory :=
  laidMet_laidAll _ (by kernel_rfl) (by kernel_rfl)

set_option maxRecDepth 100000 in
theorem lifted (os : Os) (started : os.Started) (H : Type) (enc : TypeId × Value → H) (F : Stop.Interp) :
    ReturnsInHanded {} Tryz.checked os 5 .any ((Rows.OpenSpec.upto Rows.xmltokWritesSpec).preRow enc Tryz.prog Tryz.f5 Rows.xmltokWritesUptoRow.domain false Rows.xmltokWritesUptoRow.laid) (((Rows.OpenSpec.upto Rows.xmltokWritesSpec).at F).post enc Tryz.prog Tryz.f5 false true false false) := by
  obtain ⟨places, hx⟩ : ∃ places, DataW.whole enc Tryz.prog ((World.laidAll Tryz.prog os Rows.xmltokWritesUptoRow.laid).forCall (fun _ _ => 0) ⟨#[], #[.slice none 0 0, .slice none 0 0], []⟩).memory Tryz.f5.params.toList Rows.xmltokWritesSpec.vars false #[(.slice none 0 0 : Value), (.slice none 0 0 : Value)].toList 8 = some ([.nil, .nil], [], places) := ⟨[], by kernel_rfl⟩
  refine returnsInHanded_of_row (C := Tryz.checked) (s := Rows.OpenSpec.upto Rows.xmltokWritesSpec) own started (by kernel_rfl) Tryz.func5 ?_ ?_
  · refine ⟨World.laidAll Tryz.prog os Rows.xmltokWritesUptoRow.laid, fun _ _ => 0, ⟨#[], #[.slice none 0 0, .slice none 0 0], []⟩, World.laidAll_os _ _ _, World.shaped_of_ZipB (by kernel_rfl) (by kernel_rfl), rfl, ?_, ?_, ?_⟩
    · exact (Input.okWide_of_okWideB (base := (World.laidAll Tryz.prog os Rows.xmltokWritesUptoRow.laid).heap.size) (by kernel_rfl)).2
    · exact OpenSpec.preRow_of_cond 8 hx (by kernel_rfl) (fun k hk => by cases hk; kernel_rfl) (by kernel_rfl) (laid_met os _)
    · exact (by simp only [Assume.holds]; exact ⟨by simp, by simp, fun h => absurd h (by decide), by simp, by simp⟩)
  · intro W base args ds gs before hval hW _ hcond _ hL hsh _
    exact contract H enc W base args ds gs before hval hW (hcond _ rfl) hsh hL

theorem k0 : (Rows.xmltokWritesUptoRow.wf (OpenSpec.ofChange ((Rows.OpenSpec.upto Rows.xmltokWritesSpec).bare))) = true := by kernel_rfl
theorem k1 : (laidOutB Tryz.pinned.checked.prog) = true := by kernel_rfl
theorem k2 : (mapsRowed Tryz.pinned.checked.prog) = true := by kernel_rfl
theorem k3 : (Tryz.f5.params.all (Tryz.pinned.checked.prog.readableRec ·)) = true := by kernel_rfl
theorem k4 : (namedTie Tryz.pinned.checked.prog Rows.xmltokWritesUptoRow.named ((Rows.OpenSpec.upto Rows.xmltokWritesSpec).bare).vars) = true := by kernel_rfl
theorem k5 : ((Rows.xmltokWritesUptoRow.stops == [])) = true := by kernel_rfl
theorem k6 : ((Tryz.pinned.checked.prog.stops == [])) = true := by kernel_rfl
theorem k7 : ((Rows.xmltokWritesUptoRow.knobs == [])) = true := by kernel_rfl
theorem k8 : ((Tryz.pinned.checked.prog.stopKnobs == [])) = true := by kernel_rfl
theorem k9 : ((Rows.xmltokWritesUptoRow.inPlace == Tryz.pinned.checked.prog.inPlace 5)) = true := by kernel_rfl
theorem k10 : ((Rows.xmltokWritesUptoRow.unfollowed == Tryz.pinned.checked.prog.unfollowed 5)) = true := by kernel_rfl
theorem k11 : ((Rows.xmltokWritesUptoRow.recurses == Tryz.pinned.checked.prog.recurses 5)) = true := by kernel_rfl
theorem k12 : ((Rows.xmltokWritesUptoRow.named == Tryz.pinned.checked.prog.varsNamed 5)) = true := by kernel_rfl
theorem k13 : ((Rows.xmltokWritesUptoRow.maps == (Tryz.f5.params.toList ++ ((Rows.OpenSpec.upto Rows.xmltokWritesSpec).bare).plain.varTypes Tryz.pinned.checked.prog).any (Tryz.pinned.checked.prog.mapsRec ·))) = true := by kernel_rfl
theorem k14 : ((Rows.xmltokWritesUptoRow.ifaces == (Tryz.f5.params.toList ++ ((Rows.OpenSpec.upto Rows.xmltokWritesSpec).bare).plain.varTypes Tryz.pinned.checked.prog).any (Tryz.pinned.checked.prog.ifacesRec ·))) = true := by kernel_rfl
theorem k15 : ((Rows.xmltokWritesUptoRow.mapsOut == Tryz.pinned.checked.prog.mapsAmong Tryz.f5.resultTypes.toList)) = true := by kernel_rfl
theorem k16 : ((Rows.xmltokWritesUptoRow.loops == (Tryz.f5.params.toList ++ ((Rows.OpenSpec.upto Rows.xmltokWritesSpec).bare).plain.varTypes Tryz.pinned.checked.prog).any (Tryz.pinned.checked.prog.loopsFrom ·))) = true := by kernel_rfl
theorem k17 : ((Rows.xmltokWritesUptoRow.wideKeys == (Tryz.f5.params.toList ++ ((Rows.OpenSpec.upto Rows.xmltokWritesSpec).bare).plain.varTypes Tryz.pinned.checked.prog ++ Tryz.f5.resultTypes.toList).any (Tryz.pinned.checked.prog.wideKeysFrom ·))) = true := by kernel_rfl
theorem k18 : (((Rows.OpenSpec.upto Rows.xmltokWritesSpec).bare).vars.all (Tryz.pinned.checked.prog.varReadable ·)) = true := by kernel_rfl
theorem k19 : (Tryz.f5.resultTypes.all (fun t => Tryz.pinned.checked.prog.readableRec t && decide (t < Tryz.pinned.checked.prog.types.size))) = true := by kernel_rfl
theorem k20 : ((Rows.xmltokWritesUptoRow.ifacesOut == Tryz.f5.resultTypes.toList.any (Tryz.pinned.checked.prog.ifacesRec ·))) = true := by kernel_rfl
theorem k21 : ((Rows.xmltokWritesUptoRow.loopsOut == Tryz.f5.resultTypes.toList.any (Tryz.pinned.checked.prog.loopsFrom ·))) = true := by kernel_rfl
theorem k22 : ((Rows.xmltokWritesUptoRow.plainKeys == Tryz.pinned.checked.prog.plainKeys)) = true := by kernel_rfl
theorem k23 : (Rows.xmltokWritesUptoRow.shortTexts.isNone) = true := by kernel_rfl
theorem k24 : (Tryz.pinned.checked.prog.stopsHeard) = true := by kernel_rfl
theorem k25 : (Tryz.pinned.checked.prog.mayEnter) = true := by kernel_rfl
theorem k26 : ((Rows.xmltokWritesUptoRow.lifted == Tryz.pinned.checked.prog.liftsFinal)) = true := by kernel_rfl
theorem k27 : ((Tryz.pinned.checked.prog.make == some Rows.xmltokWritesUptoRow.make)) = true := by kernel_rfl
theorem k28 : ((Rows.xmltokWritesUptoRow.kinds == (if Rows.xmltokWritesUptoRow.domain.isEmpty then [] else Tryz.f5.params.toList.map fun t => match Tryz.pinned.checked.prog.underlying t with | some (.int k) => some k | _ => none))) = true := by kernel_rfl
theorem k29 : ((Rows.xmltokWritesUptoRow.pinned == Rows.xmltokWritesUptoRow.pinnedBy)) = true := by kernel_rfl
theorem k30 : ((Rows.xmltokWritesUptoRow.veiled == (Tryz.f5.params.toList ++ ((Rows.OpenSpec.upto Rows.xmltokWritesSpec).bare).plain.varTypes Tryz.pinned.checked.prog ++ Tryz.f5.resultTypes.toList).any (Tryz.pinned.checked.prog.veiledRec ·))) = true := by kernel_rfl
theorem k31 : (Rows.xmltokWritesUptoRow.veiledFits Tryz.pinned.checked.prog Tryz.f5.params.toList (Tryz.f5.params.toList ++ ((Rows.OpenSpec.upto Rows.xmltokWritesSpec).bare).plain.varTypes Tryz.pinned.checked.prog ++ Tryz.f5.resultTypes.toList)) = true := by kernel_rfl
set_option maxRecDepth 100000 in
theorem facts : joinedFacts Tryz.pinned.checked.prog 5 Tryz.f5 ((Rows.OpenSpec.upto Rows.xmltokWritesSpec).bare) Rows.xmltokWritesUptoRow = true := joinedFacts_all k0 k1 k2 k3 k4 k5 k6 k7 k8 k9 k10 k11 k12 k13 k14 k15 k16 k17 k18 k19 k20 k21 k22 k23 k24 k25 k26 k27 k28 k29 k30 k31

theorem named : Tryz.pinned.checked.prog.funcNamed Rows.xmltokWritesUptoRow.func = some 5 := by kernel_rfl

theorem said : Rows.XmltokWritesUptoSaid :=
  OpenClaim.holds_of_cond 5 Tryz.f5 rfl rfl rfl rfl rfl rfl rfl ⟨rfl, rfl, rfl, rfl, rfl⟩ rfl rfl rfl rfl rfl named Tryz.func5 facts
    (of_decide_eq_true (by kernel_rfl)) (by unfold Func.isWrapper; first | (rw [if_pos (by decide +kernel)]; kernel_rfl) | (rw [if_neg (by decide +kernel)]; exact ⟨rfl, rfl⟩))
    (fun os started H enc _ F => by rw [OpenClaim.pre_eq_preRow]; exact lifted os started H enc F)

theorem plain (f : FuncId) (fn : Func) (hf : Tryz.pinned.checked.prog.funcNamed "tipstave/tipstavelaw04.XmltokWrites" = some f) (hfn : Tryz.pinned.checked.prog.funcs[f]? = some fn) :
    true = Tryz.pinned.checked.prog.looks [] ∧ ∀ (j : Nat) t, fn.params[j]? = some t → Tryz.pinned.checked.prog.wantsStandIn t = false := by
  obtain rfl : f = 5 := Option.some.inj ((show Tryz.prog.funcNamed "tipstave/tipstavelaw04.XmltokWrites" = some 5 by kernel_rfl).symm.trans hf) |>.symm
  obtain rfl : fn = Tryz.f5 := (Option.some.inj (Tryz.func5.symm.trans hfn)).symm
  refine ⟨by kernel_rfl, fun j t ht => ?_⟩
  rw [Tryz.params5] at ht
  have htm := Array.mem_of_getElem? ht
  simp only [List.mem_toArray, List.mem_cons, List.not_mem_nil, or_false] at htm
  rcases htm with rfl | rfl
  · exact (show Tryz.prog.wantsStandIn 24 = false by kernel_rfl)
  · exact (show Tryz.prog.wantsStandIn 24 = false by kernel_rfl)

theorem card : Rows.XmltokWritesUptoCardSaid :=
  Claim7.holds_tied_plain_at .later [] _ _ _ _ said (fun _ h => by cases h) (by kernel_rfl) (fun _ h => by cases h) xmltokWritesUpto_row_tie rfl ⟨rfl, rfl⟩ (by kernel_rfl) rfl plain (by kernel_rfl)
#print axioms card
end Go.Proofs.YtblhpkcdemefaaaGreatDoor.xmltokWrites
