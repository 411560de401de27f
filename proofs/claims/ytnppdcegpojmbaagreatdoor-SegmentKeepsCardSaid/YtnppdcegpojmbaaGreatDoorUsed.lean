/- The walk of Used: the bytes of all files that have a name, in whatever order the map is gone through. -/
import Derived.Test.YtnppdcegpojmbaaGreatDoorDisk2
import Derived.Maps.RangeWalk
namespace Go.Proofs.YtnppdcegpojmbaaGreatDoor
open Go Go.RowKit Go.Maps
namespace NMap
/-- What has been counted: all names that are no longer to come. -/
def gone (m : NMap) (f : Nat → Nat) (left : Lit → Bool) : Nat := (m.map fun p => if left (.string p.1) then 0 else f p.2).sum
theorem gone_all (m : NMap) (f : Nat → Nat) (left : Lit → Bool) (h : ∀ p ∈ m, left (.string p.1) = false) : m.gone f left = m.total f := by
  unfold gone total
  congr 1
  exact List.map_congr_left fun p hp => by rw [h p hp]; rfl
theorem gone_none (m : NMap) (f : Nat → Nat) (left : Lit → Bool) (h : ∀ p ∈ m, left (.string p.1) = true) : m.gone f left = 0 := by
  unfold gone
  have : (m.map fun p => if left (.string p.1) then 0 else f p.2) = m.map fun _ => 0 := List.map_congr_left fun p hp => by rw [h p hp]; rfl
  rw [this]
  induction m <;> simp_all
theorem gone_le (m : NMap) (f : Nat → Nat) (left : Lit → Bool) : m.gone f left ≤ m.total f := by
  unfold gone total
  induction m with
  | nil => simp
  | cons p r ih => simp only [List.map_cons, List.sum_cons]; split <;> omega
theorem gone_step (m : NMap) (f : Nat → Nat) (left : Lit → Bool) (hd : m.Pairwise fun p q => p.1 ≠ q.1) (k : Bytes) (v : Nat) (hm : (k, v) ∈ m) (hl : left (.string k) = true) :
    m.gone f (fun z => left z && !z.sameKey (.string k)) = m.gone f left + f v := by
  induction m with
  | nil => simp at hm
  | cons p r ih =>
    obtain ⟨hp, hr⟩ := List.pairwise_cons.1 hd
    unfold gone at ih ⊢
    simp only [List.map_cons, List.sum_cons, sameKey_string] at ih ⊢
    rcases List.mem_cons.1 hm with rfl | hm'
    · have e : (r.map fun p => if (left (.string p.1) && !decide (p.1 = k)) = true then 0 else f p.2) = r.map fun p => if left (.string p.1) = true then 0 else f p.2 :=
        List.map_congr_left fun q hq => by
          have : q.1 ≠ k := fun e => hp q hq e.symm
          simp [this]
      rw [e]
      simp [hl]
      omega
    · have := ih hr hm'
      rw [this]
      have hne : p.1 ≠ k := hp _ hm'
      simp [hne]
      omega
theorem get_of_mem {m : NMap} (hd : m.Pairwise fun p q => p.1 ≠ q.1) {k : Bytes} {v : Nat} (h : (k, v) ∈ m) : m.get k = some v := by
  unfold get
  induction m with
  | nil => simp at h
  | cons p r ih =>
    obtain ⟨hp, hr⟩ := List.pairwise_cons.1 hd
    rw [List.find?_cons]
    rcases List.mem_cons.1 h with rfl | h'
    · simp
    · rw [show decide (p.1 = k) = false by simpa using hp _ h']
      exact ih hr h'
end NMap
theorem map_apart {w : World} {b : Nat} {m : NMap} (h : MapAt w b m) : m.Pairwise fun p q => p.1 ≠ q.1 := by
  obtain ⟨es, e, hp, _⟩ := h.entries keyedS
  simp only [NMap.toD, DataW.map.injEq] at e
  rw [← e] at hp
  exact (List.pairwise_map.1 hp).imp fun h e => h (by rw [e])
theorem map_range {m : NMap} {kl : Lit} {x : ByteArray} {c : Int} {y : DataW Unit × List MemPlace} (hkl : keyOf Tryz.prog 9 (.string x) = some kl)
    (hv : Go.plainElem (H := Unit) Tryz.prog 3 (.int .i64 c) = some y) (hat : ∀ zd, m.toD.atKey kl zd = y.1) :
    kl = .string (bytesOf x) ∧ ∃ i, m.get (bytesOf x) = some i ∧ c = (i : Int) ∧ (bytesOf x, i) ∈ m := by
  have hk : kl = .string (bytesOf x) := by
    simp only [keyOf, Tryz.underlying9, mapKey] at hkl
    split at hkl
    · exact (Option.some.inj hkl).symm
    · cases hkl
  subst hk
  obtain ⟨a, ea, rfl, _⟩ := Go.plainElem_int_inv Tryz.underlying3 hv
  cases ea
  have h0 := hat (.lit (.bool true))
  rw [NMap.atKey_toD] at h0
  cases hg : m.get (bytesOf x) with
  | none => rw [hg] at h0; simp at h0
  | some i =>
    rw [hg] at h0
    simp at h0
    exact ⟨rfl, i, rfl, h0.symm, NMap.get_mem hg⟩
theorem keyOf_string_shape {key : Value} {kl : Lit} (h : keyOf Tryz.prog 9 key = some kl) : ∃ x, key = .string x := by
  cases key <;> simp [keyOf, Tryz.underlying9, mapKey] at h
  exact ⟨_, rfl⟩
namespace DiskW
theorem sizeAt_le {m : NMap} {p : Bytes × Nat} (hp : p ∈ m) (f : Nat → Nat) : f p.2 ≤ m.total f := by
  unfold NMap.total
  induction m with
  | nil => simp at hp
  | cons q r ih =>
    simp only [List.map_cons, List.sum_cons]
    rcases List.mem_cons.1 hp with rfl | h
    · omega
    · have := ih h; omega
theorem used_any (w : World) (d : Nat) (D : DiskV) (R : DiskRep) (h : DiskAt w d D R) (hu : D.used ≤ 9223372036854775807) :
    Calls Tryz.prog 20 #[.pointer (some ⟨d, 0, none⟩)] w fun e w' => e = .returned (.int .i64 D.used) ∧ Off None w w' := by
  have c2 : w.cell? ⟨d, 2, none⟩ = some (.map (some R.nm)) := Heap.cell h.core 2
  have H := Lib.hid h; clear h
  go_enter Tryz.func20, Tryz.ntmps20
  go_wp2_with (at_range; refine wpList_range_own _ rfl _ 76 rfl 9 3 keyedS Tryz.underlying76 _ R.nm D.names.length D.names.toD rfl H.out.names ?_; intro w0 hrg0 hg0 hs0)
  have HRG := Lib.hid hrg0; clear hrg0
  have HG0 := Lib.hid (((Off.refl None w).grown hg0 (by intro k hk; cases hk))); clear hg0
  have HS0 := Lib.hid hs0; clear hs0
  go_frame
  go_loopw [3] (fun n wr => ∃ left cnt, wr.ranges Tryz.prog 9 (Go.plainElem Tryz.prog 3) R.nm w.heap.size D.names.length D.names.toD left cnt ∧ Off None w wr ∧ n = .int .i64 (D.names.gone D.sizeAt left)) (fun _ wr => wr.rangeLeft R.nm w.heap.size)
  case atStart =>
    refine ⟨_, _, HRG.out, HG0.out, ?_⟩
    rw [NMap.gone_none _ _ _ (fun p hp => by
      rw [NMap.has_toD]
      rw [NMap.get_of_mem (map_apart H.out.names) (show (p.1, p.2) ∈ D.names from hp)]; rfl)]
    rfl
  case round =>
    obtain ⟨left, cnt, hrg, hoff, rfl⟩ := hrel
    have hgl := NMap.gone_le D.names D.sizeAt left
    have hgb : D.names.gone D.sizeAt left ≤ 9223372036854775807 := Nat.le_trans hgl hu
    have HR := Lib.hid hrg; clear hrg
    have HO := Lib.hid hoff; clear hoff
    go_wp2_with (at_next; refine wpList_next_ranges _ rfl _ rfl 9 keyedS _ Value.string (Value.int .i64) (fun key kl hk => ?k1) (fun v y hv => ?k2) R.nm w.heap.size D.names.length D.names.toD left cnt rfl HR.out ?_ ?_)
    case k1 => exact keyOf_string_shape hk
    case k2 => obtain ⟨c, rfl, _⟩ := Go.plainElem_int_inv Tryz.underlying3 hv; exact ⟨c, rfl⟩
    · intro hc0 hl0
      have e := NMap.gone_all D.names D.sizeAt left (fun p _ => hl0 _)
      have E := Lib.hid e; clear e hl0
      go_wp2
      go_ret
      exact ⟨ret_int (by rw [E.out]; rfl), HO.out⟩
    · intro x c kl ya yb w1 cnt1 hkl hlk hv hat hrg1 hlt hg1 hs1 hen
      obtain ⟨rfl, i, hgi, rfl, hmem⟩ := map_range hkl hv hat
      have hi : i < D.files.length := H.out.wf.names _ hmem
      obtain ⟨f, hf⟩ : ∃ f, D.files[i]? = some f := ⟨_, List.getElem?_eq_getElem hi⟩
      have hoff1 : Off None w w1 := HO.out.grown hg1 (by intro k hk; cases hk; exact .inr (Nat.le_refl _))
      have hsz : D.sizeAt i = f.now.size := by unfold DiskV.sizeAt; rw [hf]; rfl
      have hstep := NMap.gone_step D.names D.sizeAt left (map_apart H.out.names) (bytesOf x) i hmem hlk
      rw [hsz] at hstep
      have hle := NMap.gone_le D.names D.sizeAt (fun z => left z && !z.sameKey (.string (bytesOf x)))
      rw [hstep] at hle
      have hsum : D.names.gone D.sizeAt left + f.now.size ≤ 9223372036854775807 := Nat.le_trans hle hu
      obtain ⟨g, cap, b, hfv, hfb, hcell⟩ := frow_cell (H.out.off hoff1 (fun _ _ h => h)) i hi
      have hfile := file_cell (H.out.off hoff1 (fun _ _ h => h)) hf hfb
      have c1 : w1.cell? ⟨d, 1, none⟩ = some R.fv := Heap.cell (H.out.off hoff1 (fun _ _ h => h)).core 1
      rw [hfv] at c1
      have HRG1 := Lib.hid hrg1; clear hrg1
      have HOF := Lib.hid hoff1; clear hoff1
      have HST := Lib.hid hstep
      have HLT : cnt1 < cnt := hlt
      clear hkl hv hat hg1 hs1 hmem hgi hsz hle hstep hfv hf hfb
      go_wp2
      go_roundw
      case rel => exact ⟨_, cnt1, HRG1.out, HOF.out, by rw [HST.out]; go_num⟩
      case measure => rw [HRG1.out.left_eq, HR.out.left_eq]; exact hlt
end DiskW
end Go.Proofs.YtnppdcegpojmbaaGreatDoor
