/- What SegmentRolls needs besides: frame.Size, the names of a log's disk, the segments' cells. -/
import Derived.Test.YtnppdcegpojmbaaGreatDoorLaw3
namespace Go.Proofs.YtnppdcegpojmbaaGreatDoor
open Go Go.RowKit
namespace Held
variable {R n N : Nat} {A : Nat → Prop} {w : World} {lg d off f0 : Nat} {full : List Grp} {act : Grp} {k : Nat}
theorem names (h : Held R n N A w lg d off f0 full act k) (hx : full.length ≤ 1000000) :
    Calls Tryz.prog 18 #[.pointer (some ⟨d, 0, none⟩)] w fun e w' => ∃ A' c, e = .returned (.slice A' (full.length + 1) c) ∧ Off None w w' := by
  obtain ⟨L, D, h⟩ := h
  obtain ⟨F, ⟨g, cap, Fd, hs⟩, hF⟩ := h.store
  obtain ⟨Rp, hd, _⟩ := hs.disk
  obtain ⟨es, hgood, hes⟩ := h.good.disk
  have hl : D.names.length = full.length + 1 := by
    have h1 := congrArg List.length hes
    rw [List.length_map, List.length_map, List.length_append, List.length_singleton] at h1
    rw [hgood.names.length_eq, List.length_map, h1]
  have hl2 : D.list.length = full.length + 1 := by unfold DiskV.list; rw [List.length_mergeSort, List.length_map, hl]
  refine (DiskW.list_any w d D Fd ⟨Rp, hd, by assumption⟩ (by omega)).mono ?_
  rintro e w' ⟨v, rfl, hr, hb⟩
  rw [hl2] at hr
  obtain ⟨_, ⟨_, h0⟩ | ⟨g2, cap2, cur2, rfl, _⟩⟩ := hr
  · exact absurd h0 (by omega)
  · exact ⟨_, _, rfl, Off.of_below hb⟩
theorem chain (h : Held R n N A w lg d off f0 full act k) : Chain f0 (full ++ [act]) act.end_ := by
  obtain ⟨L, D, h⟩ := h
  exact h.good.chain
theorem small (h : Held R n N A w lg d off f0 full act k) : ∀ g ∈ full ++ [act], ∀ b ∈ g.bodies, b.length ≤ 2000 := by
  obtain ⟨L, D, h⟩ := h
  exact h.good.small
end Held
namespace Law
/-- The cells of segments. -/
theorem seg_cell (gs : List Grp) {j i : Nat} (hj : j < gs.length) (hi : i < 3) : ((gs.map Grp.seg).flatMap segCells)[j * 3 + i]? = (segCells (gs[j].seg))[i]? := by
  induction gs generalizing j with
  | nil => exact absurd hj (by simp)
  | cons g r ih =>
    rw [List.map_cons, List.flatMap_cons]
    have hl : (segCells g.seg).length = 3 := rfl
    cases j with
    | zero =>
      rw [List.getElem?_append_left (by omega), Nat.zero_mul, Nat.zero_add]
      rfl
    | succ j =>
      rw [List.getElem?_append_right (by omega), hl, show (j + 1) * 3 + i - 3 = j * 3 + i by omega, ih (by simpa using hj)]
      rfl
theorem chain_at (gs : List Grp) : ∀ (f t j : Nat), Chain f gs t → (hj : j + 1 < gs.length) → gs[j + 1].first = gs[j].first + gs[j].bodies.length := by
  induction gs with
  | nil => intro f t j _ hj; exact absurd hj (by simp)
  | cons g r ih =>
    intro f t j hc hj
    cases j with
    | zero =>
      cases r with
      | nil => exact absurd hj (by simp)
      | cons x y => exact hc.2.1
    | succ j => exact ih g.end_ t j hc.2 (by simpa using hj)
theorem chain_head {gs : List Grp} {f t : Nat} (hc : Chain f gs t) (h : 0 < gs.length) : gs[0].first = f := by
  cases gs with
  | nil => exact absurd h (by simp)
  | cons x y => exact hc.1
/-- The sum of the first sizes. -/
def sizes (gs : List Grp) (j : Nat) : Nat := GoodLog.sum (gs.take j)
theorem sizes_succ (gs : List Grp) {j : Nat} (hj : j < gs.length) : sizes gs (j + 1) = sizes gs j + gs[j].txt.length := by
  unfold sizes GoodLog.sum
  rw [List.take_succ_eq_append_getElem hj, List.map_append, List.sum_append]
  simp
theorem sizes_le (gs : List Grp) (j : Nat) : sizes gs j ≤ GoodLog.sum gs := by
  unfold sizes GoodLog.sum
  conv => rhs; rw [← List.take_append_drop j gs, List.map_append, List.sum_append]
  omega
theorem sizes_all (gs : List Grp) : sizes gs gs.length = GoodLog.sum gs := by unfold sizes; rw [List.take_length]
end Law
end Go.Proofs.YtnppdcegpojmbaaGreatDoor
