/- The row of SegmentRolls, and its card: for every input the law returns true; each argument reads behind the call as it read before. Condition of the row: the tables that it lists read as their initialisers lay them; the card ties them to the program's text. -/
import Derived.Test.YtnppdcegpojmbaaGreatDoorOpens
import Derived.Test.YtnppdcegpojmbaaGreatDoorRolls
import Derived.Test.YtnppdcegpojmbaaGreatDoorOpens
import Derived.Test.YtnppdcegpojmbaaGreatDoorRolls
import Derived.Test.YtnppdcegpojmbaaGreatDoorLaid
import Derived.Test.YtnppdcegpojmbaaGreatDoorCards
import Derived.Test.YtnppdcegpojmbaaGreatDoorTie
import Derived.Test.YtnppdcegpojmbaaGreatDoorDoor
import Derived.SevenTiedAt
namespace Go.Proofs.YtnppdcegpojmbaaGreatDoor.segmentRolls
open Go Go.ChangeShapes Go.WideShapes Go.ChangeAt Go.RowKit Opens
theorem own : ownKnob Tryz.prog.godebug = none := by kernel_rfl
theorem door_met (os : Os) (args : Array Value) : laidMetH Tryz.prog Rows.segmentRollsRow.laid ((World.laidAll Tryz.prog os Rows.segmentRollsRow.laid).forCall (fun _ _ => 0) ⟨#[], args, []⟩).memory := by
  rw [MakeChecks.laidMetH_plain _ _ _ (by kernel_rfl)]
  exact laidMet_laidAll _ (by kernel_rfl) (by kernel_rfl)
theorem glob {W : World} (h : laidMetH Tryz.prog Rows.segmentRollsRow.laid W) : Glob W.heap.size W := Laid.glob_of h (by rfl) (by rfl)
set_option maxRecDepth 100000 in
theorem lifted (os : Os) (started : os.Started) (H : Type) (enc : TypeId × Value → H) :
    ReturnsInHanded {} Tryz.checked os 3 .any (fun w args => (Rows.segmentRollsSpec.pre enc Tryz.prog Tryz.f3 [] false w args ∧ laidMetH Tryz.prog Rows.segmentRollsRow.laid w) ∧ sizedMet enc Tryz.prog Tryz.f3 (OpenSpec.ofChange Rows.segmentRollsSpec) false w args)
      (Rows.segmentRollsSpec.post enc Tryz.prog Tryz.f3 false true false false) := by
  refine returnsInHanded_of_change_and (C := Tryz.checked) (X := fun w _ => laidMetH Tryz.prog Rows.segmentRollsRow.laid w) (fun _ _ _ hh h => h.of_heap hh) own started (by kernel_rfl) Tryz.func3
    (ChangeSpec.witness_shaped (enc := enc) (C := Tryz.checked) (os := os) (X := fun w _ => laidMetH Tryz.prog Rows.segmentRollsRow.laid w) false (World.laidAll Tryz.prog os Rows.segmentRollsRow.laid) #[.slice none 0 0, .slice none 0 0] 8 (World.laidAll_os _ _ _) (World.shaped_of_RefB (by kernel_rfl) (by kernel_rfl)) (by kernel_rfl) (by kernel_rfl) (by kernel_rfl) (door_met os _)) ?_
  intro W base args ds gs before hval0 hW hc hsz hL _
  have hval : ∀ (j : Nat) t v, Tryz.f3.params[j]? = some t → args[j]? = some v → Value.okWide Tryz.prog W .any base t v := hval0
  have hW' := hW
  obtain ⟨p, q, hA0, hV, rfl, hfz, hnd⟩ := hW
  have hA : DataW.TrodAll enc Tryz.prog W 0 (fun _ => true) true Tryz.f3.params.toList args.toList ds p := hA0
  rw [Tryz.params3] at hA hval
  obtain ⟨v0, vs0, d0, ds0, p0, q0, hargs, rfl, rfl, h0, r0⟩ := trodAll_cons hA
  obtain ⟨v1, vs1, d1, ds1, p1, q1, rfl, rfl, rfl, h1, r1⟩ := trodAll_cons r0
  obtain ⟨rfl, rfl, rfl⟩ := trodAll_nil r1
  obtain rfl : args = #[v0, v1] := by cases args; simp_all
  obtain ⟨rfl, rfl⟩ := trodVars_none hV
  obtain ⟨A0, l0, k0, rfl⟩ := okWide_slice Tryz.underlying22 (hval 0 22 v0 rfl rfl)
  obtain ⟨f0, hf0⟩ := h0
  obtain ⟨z0, T0, rfl, _, hT0⟩ := texts_list hf0 (fun n hn => sized_all hsz n (DataW.weights_mem_each (j := 0) (t := 22) (by rw [Tryz.params3]; rfl) rfl n hn))
  obtain ⟨A1, l1, k1, rfl⟩ := okWide_slice Tryz.underlying23 (hval 1 23 v1 rfl rfl)
  obtain ⟨f1, hf1⟩ := h1
  obtain ⟨z1, T1, y1, hT1⟩ := ints_of hf1
  clear hA0 hval0
  simp only [List.append_nil] at hW'
  refine (Law.rolls_walk' W A0 A1 T0 k0 l1 k1 T1 hT0 hT1 y1 z0 z1 (glob hL)).mono fun e W' ⟨he, hg⟩ => ?_
  subst he
  exact ⟨_, rfl, Door.post_of_below rfl rfl rfl Tryz.underlying4 (by kernel_rfl) rfl rfl rfl hW' hg⟩
theorem row_holds : Rows.SegmentRollsSaid :=
  OpenClaim.holds_of_wide 3 Tryz.f3 rfl rfl rfl rfl rfl rfl rfl ⟨rfl, rfl, rfl, rfl, rfl⟩ rfl rfl rfl rfl rfl (by kernel_rfl) Tryz.func3 (by kernel_rfl)
    (of_decide_eq_true (by kernel_rfl)) (by unfold Func.isWrapper; first | (rw [if_pos (by decide +kernel)]; kernel_rfl) | (rw [if_neg (by decide +kernel)]; exact ⟨rfl, rfl⟩))
    (fun os started H enc _ => lifted os started H enc)
/-- The tied card. -/
theorem card_holds : Rows.SegmentRollsCardSaid :=
  Claim7.holds_tied_plain_at .later [] [.data, .data, .data, .data, .data, .sentinel, .sentinel, .pinned] true Rows.segmentRollsCard.stood.harness true
    row_holds (fun _ h => by cases h) (by kernel_rfl) (fun _ h => by cases h) segmentRolls_row_tie rfl ⟨rfl, rfl⟩ (by kernel_rfl) rfl
    (fun f fn hf hfn => by
      obtain rfl : f = 3 := Option.some.inj ((show Tryz.prog.funcNamed "postroom/postroomlaw9.SegmentRolls" = some 3 by kernel_rfl).symm.trans hf) |>.symm
      obtain rfl : fn = Tryz.f3 := (Option.some.inj (Tryz.func3.symm.trans hfn)).symm
      exact ⟨by kernel_rfl, fun j t ht => by
        rw [Tryz.params3] at ht
        have hm : t ∈ [22, 23] := by simpa using Array.mem_of_getElem? ht
        have hall : ([22, 23].all fun u => !Tryz.prog.wantsStandIn u) = true := by kernel_rfl
        exact (show Tryz.prog.wantsStandIn t = false by simpa using List.all_eq_true.1 hall t hm)⟩)
    (by kernel_rfl)
#print axioms card_holds
end Go.Proofs.YtnppdcegpojmbaaGreatDoor.segmentRolls
