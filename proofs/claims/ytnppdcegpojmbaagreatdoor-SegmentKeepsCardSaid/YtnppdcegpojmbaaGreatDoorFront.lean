/- The walk of light: are acts few, and their texts short? · The walk of front: has a log, as its first ones, so many of some bodies? -/
import Derived.Test.YtnppdcegpojmbaaGreatDoorLaw1
import Derived.Handy
import Derived.Test.YtnppdcegpojmbaaGreatDoorLaw2
namespace Go.Proofs.YtnppdcegpojmbaaGreatDoor
open Go Go.RowKit
namespace Law
def sumT (T : Nat → ByteArray) : Nat → Nat
  | 0 => 0
  | k + 1 => sumT T k + (T k).size
def lightB (T : Nat → ByteArray) (n : Nat) : Bool := decide (n ≤ 60) && decide (sumT T n ≤ 1000)
theorem sumT_le (T : Nat → ByteArray) (n : Nat) (h : ∀ i, i < n → (T i).size ≤ 140737488355328) : sumT T n ≤ n * 140737488355328 := by
  induction n with
  | zero => exact Nat.le_refl _
  | succ n ih =>
    have := ih (fun i hi => h i (by omega))
    have := h n (by omega)
    show sumT T n + (T n).size ≤ _
    omega
set_option maxRecDepth 100000 in
theorem light_any (w : World) (p : Option Addr) (n cap : Nat) (T : Nat → ByteArray) (hT : ∀ i, i < n → ∃ a, p = some a ∧ w.cell? ⟨(a.add (i * 3)).block, (a.add (i * 3)).off + 2, none⟩ = some (.string (T i))) (hs : ∀ i, i < n → (T i).size ≤ 140737488355328) (hn : n ≤ 140737488355328) :
    Calls Tryz.prog 36 #[.slice p n cap] w fun e w' => e = .returned (.bool (lightB T n)) ∧ Off None w w' := by
  have HT := Lib.hid hT
  have HS := Lib.hid hs
  clear hT hs
  by_cases h60 : n ≤ 60
  · have hl : lightB T n = decide (sumT T n ≤ 1000) := by unfold lightB; rw [decide_eq_true h60, Bool.true_and]
    rw [hl]
    clear hl
    go_enter Tryz.func36, Tryz.ntmps36
    go_wp2
    go_loopw [3, 4] (fun x i wr => ∃ k : Nat, k ≤ n ∧ i = .int .i64 k ∧ x = .int .i64 ((sumT T k : Nat) : Int) ∧ Off None w wr) (fun _ i _ => n - (intOf i).toNat)
    case atStart => exact ⟨0, Nat.zero_le _, rfl, rfl, Off.refl _ _⟩
    case round =>
      obtain ⟨k, hk, rfl, rfl, ho⟩ := hrel
      have HO := Lib.hid ho; clear ho
      have hle := sumT_le T k (fun i hi => HS.out i (by omega))
      obtain ⟨y, hy⟩ : ∃ y, y = sumT T k := ⟨_, rfl⟩
      rw [← hy] at hle ⊢
      have HY := Lib.hid hy; clear hy
      by_cases hlt : k < n
      · obtain ⟨a, hpa, hc⟩ := HT.out k hlt
        subst hpa
        have hc' := HO.out.keep hc (fun h => h)
        have hsz := HS.out k hlt
        have hi0 : (0 : Int) ≤ (k : Int) := by omega
        have hi1 : (k : Int) < (n : Int) := by omega
        clear hc
        go_wp2
        case roundEnd => exact ⟨⟨k + 1, hlt, by push_cast; rfl, by rw [show sumT T (k + 1) = sumT T k + (T k).size from rfl, ← HY.out]; push_cast; rfl, HO.out⟩, by simp [intOf]; omega⟩
      · have hkn : k = n := by omega
        subst hkn
        have hi1 : ¬ (k : Int) < (k : Int) := by omega
        have h60' : (k : Int) ≤ 60 := by omega
        go_wp2
        go_ret
        refine ⟨?_, HO.out⟩
        rw [← HY.out]
        exact congrArg (fun b => Ending.returned (.bool b)) (by rw [decide_eq_decide]; omega)
  · have hl : lightB T n = false := by unfold lightB; rw [decide_eq_false h60, Bool.false_and]
    rw [hl]
    clear hl
    go_enter Tryz.func36, Tryz.ntmps36
    go_wp2
    go_loopw [3, 4] (fun x i wr => ∃ (k : Nat) (q : Int), k ≤ n ∧ i = .int .i64 k ∧ x = .int .i64 q ∧ Off None w wr) (fun _ i _ => n - (intOf i).toNat)
    case atStart => exact ⟨0, 0, Nat.zero_le _, rfl, rfl, Off.refl _ _⟩
    case round =>
      obtain ⟨k, q, hk, rfl, rfl, ho⟩ := hrel
      have HO := Lib.hid ho; clear ho
      by_cases hlt : k < n
      · obtain ⟨a, hpa, hc⟩ := HT.out k hlt
        subst hpa
        have hc' := HO.out.keep hc (fun h => h)
        have hi0 : (0 : Int) ≤ (k : Int) := by omega
        have hi1 : (k : Int) < (n : Int) := by omega
        clear hc
        go_wp2
        case roundEnd => exact ⟨⟨k + 1, _, hlt, by push_cast; rfl, rfl, HO.out⟩, by simp [intOf]; omega⟩
      · have hkn : k = n := by omega
        subst hkn
        have hi1 : ¬ (k : Int) < (k : Int) := by omega
        have h60' : ¬ (k : Int) ≤ 60 := by omega
        go_wp2
        go_ret
        exact ⟨rfl, HO.out⟩
end Law
end Go.Proofs.YtnppdcegpojmbaaGreatDoor
namespace Go.Proofs.YtnppdcegpojmbaaGreatDoor
open Go Go.RowKit
namespace Law
/-- Are the first bodies of a row those of another? -/
def frontL (all l : List (List UInt8)) (many : Nat) : Prop := ∀ i, i < many → ∃ b, all[i]? = some b ∧ l[i]? = some b
theorem chain_total {f t : Nat} {G : List Grp} (h : Chain f G t) : t = f + (G.flatMap (·.bodies)).length := by
  induction G generalizing f with
  | nil => simpa using h.symm
  | cons g r ih =>
    have h1 := h.1
    rw [ih h.2, List.flatMap_cons, List.length_append]
    unfold Grp.end_
    omega
theorem held_chain {R n N : Nat} {A : Nat → Prop} {w : World} {lg d off f0 : Nat} {full : List Grp} {act : Grp} {k : Nat} (h : Held R n N A w lg d off f0 full act k) : Chain f0 (full ++ [act]) act.end_ ∧ act.end_ ≤ 1000000 := by
  obtain ⟨L, D, h⟩ := h
  exact ⟨h.good.chain, h.good.few⟩
theorem str_ne {a b : List UInt8} (h : a ≠ b) : (!((⟨a.toArray⟩ : ByteArray).toList == (⟨b.toArray⟩ : ByteArray).toList)) = true := by
  rw [Heap.toList_data, Heap.toList_data]
  simpa using h
open Classical in
set_option maxHeartbeats 1000000 in
set_option maxRecDepth 100000 in
theorem front_any {R n N : Nat} {A : Nat → Prop} {w : World} {lg d off : Nat} {full : List Grp} {act : Grp} {k : Nat} (h : Held R n N A w lg d off 1 full act k) (p : Option Addr) (l : List ByteArray) (cap : Nat)
    (hT : ∀ i (hi : i < l.length), ∃ a, p = some a ∧ w.cell? (a.add i) = some (.string l[i])) (hl : l.length ≤ 1000000) (many : Nat) (hm : many ≤ 1000000) :
    Calls Tryz.prog 39 #[.pointer (some ⟨lg, 0, none⟩), .slice p l.length cap, .int .i64 many] w fun e w' =>
      e = .returned (.bool (decide (frontL ((full ++ [act]).flatMap (·.bodies)) (l.map fun t => t.data.toList) many))) ∧ Off None w w' := by
  have H := Lib.hid h
  have HT := Lib.hid hT
  have hch := chain_total (held_chain h).1
  have hfw := (held_chain h).2
  obtain ⟨all, hall⟩ : ∃ all, all = (full ++ [act]).flatMap (·.bodies) := ⟨_, rfl⟩
  rw [← hall] at hch ⊢
  have HALL := Lib.hid hall
  have HCH := Lib.hid hch
  have hal : all.length ≤ 1000000 := by omega
  clear h hT hall hch
  by_cases hlm : l.length < many
  · have hno : ¬ frontL all (l.map fun t => t.data.toList) many := by
      intro hf
      obtain ⟨b, _, h2⟩ := hf l.length hlm
      rw [List.getElem?_eq_none (by simp)] at h2
      cases h2
    rw [decide_eq_false hno]
    have hlm' : (l.length : Int) < (many : Int) := by omega
    clear hno
    go_enter Tryz.func39, Tryz.ntmps39
    go_wp2
    go_ret
    exact ⟨rfl, Off.refl _ _⟩
  · have hlm' : ¬ (l.length : Int) < (many : Int) := by omega
    obtain ⟨res, hres⟩ : ∃ res, res = decide (frontL all (l.map fun t => t.data.toList) many) := ⟨_, rfl⟩
    rw [← hres]
    have HRES := Lib.hid hres; clear hres
    go_enter Tryz.func39, Tryz.ntmps39
    go_wp2
    go_loopw [7] (fun i wr => ∃ j : Nat, j ≤ many ∧ i = .int .i64 j ∧ frontL all (l.map fun t => t.data.toList) j ∧ Off None w wr) (fun i _ => many - (intOf i).toNat)
    case atStart => exact ⟨0, Nat.zero_le _, rfl, fun i hi => absurd hi (by omega), Off.refl _ _⟩
    case round =>
      obtain ⟨j, hj, rfl, hfr, ho⟩ := hrel
      have HO := Lib.hid ho; clear ho
      have HFR := Lib.hid hfr; clear hfr
      by_cases hlt : j < many
      · obtain ⟨a, hpa, hc⟩ := HT.out j (by omega)
        subst hpa
        have hc' := HO.out.keep hc (fun h => h)
        obtain ⟨x, hx⟩ : ∃ x, x = l[j] := ⟨_, rfl⟩
        rw [← hx] at hc'
        have HX := Lib.hid hx
        have hi0 : (0 : Int) ≤ (j : Int) := by omega
        have hi1 : (j : Int) < (many : Int) := by omega
        have hi2 : (j : Int) < (l.length : Int) := by omega
        have hwi : IntKind.u64.wrap ((j : Int) + 1) = (j : Int) + 1 := by simp [IntKind.wrap, IntKind.bits, IntKind.signed]; omega
        have hlx : (l.map fun t => t.data.toList)[j]? = some x.data.toList := by rw [List.getElem?_map, List.getElem?_eq_getElem (by omega), hx]; rfl
        have HLX := Lib.hid hlx
        clear hc hx hlx
        by_cases hin : j < all.length
        · have hget := (H.out.quiet HO.out).get_some (i := j) (b := all[j]) (by rw [← HALL.out]; exact List.getElem?_eq_getElem hin) (by omega)
          rw [show ((1 + j : Nat) : Int) = (j : Int) + 1 by omega] at hget
          obtain ⟨b, hb⟩ : ∃ b, b = all[j] := ⟨_, rfl⟩
          rw [← hb] at hget
          have HB := Lib.hid hb; clear hb
          have HG := Lib.hid hget; clear hget
          go_wp2_with fail
          refine HG.out.mono ?_
          rintro e w1 ⟨rfl, ho1⟩
          have hc1 := ho1.keep hc' (fun h => h)
          have HO1 := Lib.hid (HO.out.trans ho1 (fun _ _ h => h)); clear ho1 hc' HG hwi
          by_cases heq : b = x.data.toList
          · have hbx : (⟨b.toArray⟩ : ByteArray) = x := by rw [heq]
            rw [hbx]
            have HEQ := Lib.hid heq; clear heq hbx
            go_wp2_with fail
            case roundEnd =>
              refine ⟨⟨j + 1, hlt, by push_cast; rfl, fun i hi => ?_, HO1.out⟩, by simp [intOf]; omega⟩
              rcases Nat.lt_or_ge i j with h | h
              · exact HFR.out i h
              · obtain rfl : i = j := by omega
                exact ⟨b, by rw [HB.out, List.getElem?_eq_getElem hin], by rw [HLX.out, HEQ.out]⟩
          · have hno : res = false := by
              rw [HRES.out, decide_eq_false_iff_not]
              intro hf
              obtain ⟨c, h1, h2⟩ := hf j hlt
              rw [List.getElem?_eq_getElem hin, ← HB.out] at h1
              rw [HLX.out] at h2
              cases h1; cases h2
              exact heq rfl
            have HNO := Lib.hid hno; clear hno
            obtain ⟨bb, hbb⟩ : ∃ bb : ByteArray, bb = ⟨b.toArray⟩ := ⟨_, rfl⟩
            rw [← hbb]
            have hne : ¬ bb.toList = x.toList := by rw [hbb, Heap.toList_data, Heap.toList_data]; exact heq
            have hne2 : (bb.toList == x.toList) = false := by rw [beq_eq_false_iff_ne]; exact hne
            have hne3 : (!(bb.toList == x.toList)) = true := by rw [hne2]; rfl
            clear hbb heq
            go_wp2_with fail
            go_ret
            exact ⟨by rw [HNO.out]; rfl, HO1.out⟩
        · have hget := (H.out.quiet HO.out).get_none (s := j + 1) (.inr (by rw [HCH.out]; omega)) (by omega)
          rw [show ((j + 1 : Nat) : Int) = (j : Int) + 1 by push_cast; rfl] at hget
          have HG := Lib.hid hget; clear hget
          have hno : res = false := by
            rw [HRES.out, decide_eq_false_iff_not]
            intro hf
            obtain ⟨c, h1, _⟩ := hf j hlt
            rw [List.getElem?_eq_none (by omega)] at h1
            cases h1
          have HNO := Lib.hid hno; clear hno
          go_wp2_with fail
          refine HG.out.mono ?_
          rintro e w1 ⟨rfl, ho1⟩
          have HO1 := Lib.hid (HO.out.trans ho1 (fun _ _ h => h)); clear ho1 HG hwi
          go_wp2_with fail
          go_ret
          exact ⟨by rw [HNO.out]; rfl, HO1.out⟩
      · have hjm : j = many := by omega
        subst hjm
        have hi1 : ¬ (j : Int) < (j : Int) := by omega
        have hyes : res = true := by rw [HRES.out, decide_eq_true_eq]; exact HFR.out
        have HY := Lib.hid hyes; clear hyes
        go_wp2_with fail
        go_ret
        exact ⟨by rw [HY.out]; rfl, HO.out⟩
end Law
end Go.Proofs.YtnppdcegpojmbaaGreatDoor
