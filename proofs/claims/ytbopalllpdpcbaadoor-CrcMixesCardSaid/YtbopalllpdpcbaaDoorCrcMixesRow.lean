/- The row of CrcMixes, and its card: for every input the law returns true; each argument reads behind the call as it read before. Condition of the row: the table crc.table reads as its initialiser lays it; the card ties that to the program's text. -/
import Derived.Test.YtbopalllpdpcbaaDoorCrcMixesWalk
import Derived.Test.YtbopalllpdpcbaaDoorCards
import Derived.Test.YtbopalllpdpcbaaDoorTie
import Derived.Test.YtbopalllpdpcbaaDoorDoor
import Derived.WalkKit
import Derived.ProofKit
import Derived.OpenShut
import Derived.ShutString
import Derived.LaidMore
import Derived.Lib.LaidTab
import Derived.SizedLaws
import Derived.MakeChecks
import Derived.Stop.Joined
import Derived.SevenTiedAt
namespace Go.Proofs.YtbopalllpdpcbaaDoor.crcMixes
open Go Go.ChangeShapes Go.WideShapes Go.ChangeAt Go.RowKit
open Go.ChangeMaps (open_string shut_string)
theorem own : ownKnob Tryd.prog.godebug = none := by kernel_rfl
theorem gTab : Tryd.prog.globalNamed "postroom/crc.table" = some 0 := by kernel_rfl
theorem tTab : (Tryd.prog.globals[0]?).map (·.type) = some 35 := by kernel_rfl
theorem c22 : Tryd.prog.cellsOf 22 = 1 := by kernel_rfl
theorem c35 : Tryd.prog.cellsOf 35 = 16 := by kernel_rfl
theorem laid_eq : Tryd.prog.laidByTextLater [("postroom/crc.table", Rows.laid_postroom_crc_table)] [.data] true := tie
theorem door_met (os : Os) (args : Array Value) : laidMetH Tryd.prog [("postroom/crc.table", Rows.laid_postroom_crc_table)] ((World.doorLaid Tryd.prog 400 os).forCall (fun _ _ => 0) ⟨#[], args, []⟩).memory :=
  laidMetH_of_parts3 (fuel := 8) (laidMet_of_run' 8 (by kernel_rfl) (by kernel_rfl)) (by kernel_rfl) (by kernel_rfl)
theorem tab_of_laid {W : World} (h : laidMetH Tryd.prog [("postroom/crc.table", Rows.laid_postroom_crc_table)] W) : Crc.TabOk W := by
  rw [MakeChecks.laidMetH_plain _ _ _ (by kernel_rfl)] at h
  have hT := Lib.tabIs_of_head (k := .u32) (zs := Crc.tabL.map fun (n : Nat) => (n : Int)) gTab tTab Tryd.underlying35 Tryd.underlying22 c22 c35 h
  intro i hi
  have := hT.cell gTab i (by simpa [Crc.tabL] using hi)
  rw [this, Crc.tabAt]
  have e : ∀ j : Fin 16, (Crc.tabL.map fun (n : Nat) => (n : Int)).getD j.val 0 = ((Crc.tabL.getD j.val 0 : Nat) : Int) := by decide
  rw [e ⟨i, hi⟩]

set_option maxRecDepth 100000 in
theorem lifted (os : Os) (started : os.Started) (H : Type) (enc : TypeId × Value → H) :
    ReturnsInHanded {} Tryd.checked os 6 .any (fun w args => (Rows.crcMixesSpec.pre enc Tryd.prog Tryd.f6 [] false w args ∧ laidMetH Tryd.prog [("postroom/crc.table", Rows.laid_postroom_crc_table)] w) ∧ sizedMet enc Tryd.prog Tryd.f6 (OpenSpec.ofChange Rows.crcMixesSpec) false w args)
      (Rows.crcMixesSpec.post enc Tryd.prog Tryd.f6 false true false false) := by
  refine returnsInHanded_of_change_and (C := Tryd.checked) (X := fun w _ => laidMetH Tryd.prog [("postroom/crc.table", Rows.laid_postroom_crc_table)] w) (fun _ _ _ hh h => h.of_heap hh) own started (by kernel_rfl) Tryd.func6
    (ChangeSpec.witness_shaped (enc := enc) (C := Tryd.checked) (os := os) (X := fun w _ => laidMetH Tryd.prog [("postroom/crc.table", Rows.laid_postroom_crc_table)] w) false (World.doorLaid Tryd.prog 400 os) #[.string ByteArray.empty, .string ByteArray.empty, .string ByteArray.empty] 8 rfl (World.shaped_of_RefB (by kernel_rfl) (by kernel_rfl)) (by kernel_rfl) (by kernel_rfl) (by kernel_rfl) (door_met os _)) ?_
  intro W base args ds gs before hval0 hW _ hsz hL _
  have hval : ∀ (j : Nat) t v, Tryd.f6.params[j]? = some t → args[j]? = some v → Value.okWide Tryd.prog W .any base t v := hval0
  have hW' := hW
  obtain ⟨p, q, hA0, hV, rfl, hfz, hnd⟩ := hW
  have hA : DataW.TrodAll enc Tryd.prog W 0 (fun _ => true) true Tryd.f6.params.toList args.toList ds p := hA0
  rw [Tryd.params6] at hA hval
  obtain ⟨v0, vs0, d0, ds0, p0, q0, hargs, rfl, rfl, h0, r0⟩ := trodAll_cons hA
  obtain ⟨v1, vs1, d1, ds1, p1, q1, rfl, rfl, rfl, h1, r1⟩ := trodAll_cons r0
  obtain ⟨v2, vs2, d2, ds2, p2, q2, rfl, rfl, rfl, h2, r2⟩ := trodAll_cons r1
  obtain ⟨rfl, rfl, rfl⟩ := trodAll_nil r2
  obtain rfl : args = #[v0, v1, v2] := by cases args; simp_all
  obtain ⟨rfl, rfl⟩ := trodVars_none hV
  obtain ⟨a0, rfl, rfl, rfl, w0⟩ := open_string Tryd.underlying9 (hval 0 9 v0 rfl rfl) h0
  obtain ⟨a1, rfl, rfl, rfl, w1⟩ := open_string Tryd.underlying9 (hval 1 9 v1 rfl rfl) h1
  obtain ⟨a2, rfl, rfl, rfl, w2⟩ := open_string Tryd.underlying9 (hval 2 9 v2 rfl rfl) h2
  clear hA0 hval0
  have z0 : a0.size ≤ 140737488351232 := by have := sized_string hsz (j := 0) (t := 9) (by rw [Tryd.params6]; rfl) rfl; simpa [reachBytes] using this
  have z1 : a1.size ≤ 140737488351232 := by have := sized_string hsz (j := 1) (t := 9) (by rw [Tryd.params6]; rfl) rfl; simpa [reachBytes] using this
  have z2 : a2.size ≤ 140737488351232 := by have := sized_string hsz (j := 2) (t := 9) (by rw [Tryd.params6]; rfl) rfl; simpa [reachBytes] using this
  simp only [List.append_nil] at hW'
  refine (walk a0 a1 a2 z0 z1 z2 W (tab_of_laid hL)).mono fun e W' ⟨he, hg⟩ => ?_
  subst he
  exact ⟨_, rfl, Door.post_of_below rfl rfl rfl Tryd.underlying4 (by kernel_rfl) rfl rfl rfl hW' hg⟩

theorem row_holds : Rows.CrcMixesSaid :=
  OpenClaim.holds_of_wide 6 Tryd.f6 rfl rfl rfl rfl rfl rfl rfl ⟨rfl, rfl, rfl, rfl, rfl⟩ rfl rfl rfl rfl rfl (by kernel_rfl) Tryd.func6 (by kernel_rfl)
    (of_decide_eq_true (by kernel_rfl)) (by unfold Func.isWrapper; first | (rw [if_pos (by decide +kernel)]; kernel_rfl) | (rw [if_neg (by decide +kernel)]; exact ⟨rfl, rfl⟩))
    (fun os started H enc _ => lifted os started H enc)
/-- The tied card. -/
theorem card_holds : Rows.CrcMixesCardSaid :=
  Claim7.holds_tied_plain_at .later [] [.data] true Rows.crcMixesCard.stood.harness false
    row_holds (fun _ h => by cases h) (by kernel_rfl) (fun _ h => by cases h) crcMixes_row_tie rfl ⟨rfl, rfl⟩ (by kernel_rfl) rfl
    (fun f fn hf hfn => by
      obtain rfl : f = 6 := Option.some.inj ((show Tryd.prog.funcNamed "postroom/postroomlaw2.CrcMixes" = some 6 by kernel_rfl).symm.trans hf) |>.symm
      obtain rfl : fn = Tryd.f6 := (Option.some.inj (Tryd.func6.symm.trans hfn)).symm
      exact ⟨by kernel_rfl, fun j t ht => by
        rw [Tryd.params6] at ht
        have hm : t ∈ [9, 9, 9] := by simpa using Array.mem_of_getElem? ht
        have hall : ([9, 9, 9].all fun u => !Tryd.prog.wantsStandIn u) = true := by kernel_rfl
        exact (show Tryd.prog.wantsStandIn t = false by simpa using List.all_eq_true.1 hall t hm)⟩)
    (by kernel_rfl)
#print axioms card_holds
end Go.Proofs.YtbopalllpdpcbaaDoor.crcMixes
