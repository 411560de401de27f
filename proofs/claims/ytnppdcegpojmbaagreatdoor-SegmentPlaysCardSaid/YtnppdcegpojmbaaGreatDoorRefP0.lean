/- The reference's log: a segment of its row is set, the first one is left out. -/
import Derived.Test.YtnppdcegpojmbaaGreatDoorTwinP
import Derived.Test.YtnppdcegpojmbaaGreatDoorRefO
import Derived.Test.YtnppdcegpojmbaaGreatDoorLaw3
import Derived.Deep.RegionHeld3
namespace Go.Proofs.YtnppdcegpojmbaaGreatDoor
open Go Go.RowKit Go.Sort
theorem rflat_len (l : List RRow) : (l.flatMap rsegCells).length = l.length * 4 := by
  induction l with
  | nil => rfl
  | cons x r ih => rw [List.flatMap_cons, List.length_append, ih, List.length_cons]; show 4 + r.length * 4 = _; omega
theorem rflat_set (l : List RRow) {k : Nat} (hk : k < l.length) (x : RRow) :
    (∀ j, j < 4 → ((l.set k x).flatMap rsegCells)[k * 4 + j]? = (rsegCells x)[j]?) ∧ ∀ j, j < k * 4 ∨ k * 4 + 4 ≤ j → ((l.set k x).flatMap rsegCells)[j]? = (l.flatMap rsegCells)[j]? := by
  have hl : (l.set k x).length = l.length := List.length_set
  constructor
  · intro j hj
    rw [rseg_cell (l.set k x) (i := k) (by omega) hj, List.getElem_set_self]
  · intro j hj
    by_cases hlt : j < l.length * 4
    · have hi : j / 4 < l.length := by omega
      have h1 := rseg_cell (l.set k x) (i := j / 4) (j := j % 4) (by omega) (by omega)
      have h2 := rseg_cell l (i := j / 4) (j := j % 4) hi (by omega)
      rw [show j / 4 * 4 + j % 4 = j by omega] at h1 h2
      rw [h1, h2, List.getElem_set_ne (by omega)]
    · rw [List.getElem?_eq_none (by rw [rflat_len]; omega), List.getElem?_eq_none (by rw [rflat_len]; omega)]
/-- What a segment's row says of its bodies. -/
def RowOk (A : Nat → Prop) (w : World) (x : RRow) : Prop := ∃ p c, x.2 = .slice p x.1.bodies.length c ∧ x.1.bodies.length ≤ c ∧ c ≤ 9223372036854775807 ∧ Lies A w p x.1.bodies
/-- A segment's cells may be written. -/
theorem RPre.there {w : World} {q r synced : Nat} {rows : List RRow} {lv : Value} {A : Nat → Prop} (h : RPre w q r rows synced lv A) {k g o c : Nat} (hk : k < rows.length) (hlv : lv = .slice (some ⟨g, o, none⟩) rows.length c) :
    ∃ u0 u1 u2 u3, w.cell? ⟨g, o + k * 4, none⟩ = some u0 ∧ w.cell? ⟨g, o + k * 4 + 1, none⟩ = some u1 ∧ w.cell? ⟨g, o + k * 4 + 2, none⟩ = some u2 ∧ w.cell? ⟨g, o + k * 4 + 3, none⟩ = some u3 ∧
      w.frozen? ⟨g, o + k * 4, none⟩ = false ∧ w.frozen? ⟨g, o + k * 4 + 1, none⟩ = false ∧ w.frozen? ⟨g, o + k * 4 + 2, none⟩ = false ∧ w.frozen? ⟨g, o + k * 4 + 3, none⟩ = false := by
  obtain ⟨g', o', c', h1, _, _, _, _, h6⟩ := h.row.cell (by omega)
  rw [hlv] at h1
  cases h1
  have e0 := h6 (k * 4) _ (by have := rseg_cell rows hk (j := 0) (by omega); rw [Nat.add_zero] at this; exact this)
  have e1 := h6 (k * 4 + 1) _ (rseg_cell rows hk (j := 1) (by omega))
  have e2 := h6 (k * 4 + 2) _ (rseg_cell rows hk (j := 2) (by omega))
  have e3 := h6 (k * 4 + 3) _ (rseg_cell rows hk (j := 3) (by omega))
  exact ⟨_, _, _, _, e0.1, e1.1, e2.1, e3.1, e0.2, e1.2, e2.2, e3.2⟩
namespace RStoreAt
variable {w w' : World} {q r synced : Nat} {rows : List RRow} {lv : Value} {A Fr F : Nat → Prop} {X X' : RefV}
/-- One segment is set. -/
theorem setRow (h : RStoreAt w q r rows synced lv A X Fr F) {k g o c : Nat} (hk : k < rows.length) (hlv : lv = .slice (some ⟨g, o, none⟩) rows.length c) (x : RRow) (hx : RowOk A w x) :
    RStoreAt (w.setCells g (o + k * 4) (rsegCells x)) q r (rows.set k x) synced lv A X Fr F ∧ Off F w (w.setCells g (o + k * 4) (rsegCells x)) := by
  have hob : lv.ownBlock = some g := by rw [hlv]; rfl
  have ho : Off (Only g) w (w.setCells g (o + k * 4) (rsegCells x)) := Off.setCells _ _ _
  have hqg : q ≠ g := fun e => h.pre.ne (by rw [hob, e])
  have hA : ∀ b, A b → ¬ Only g b := fun b hb e => (h.sepA b hb).2.2.1 (by rw [hob, show b = g from e])
  have hl : (rows.set k x).length = rows.length := List.length_set
  obtain ⟨f1, f2⟩ := rflat_set rows hk x
  have hrow := h.pre.row
  rw [hlv] at hrow
  have hput := hrow.put (k * 4) (rsegCells x) ((rows.set k x).flatMap rsegCells) (by show k * 4 + 4 ≤ rows.length * 4; omega) (by rw [rflat_len, rflat_len, hl]) f1 f2
  refine ⟨⟨⟨ho.at_ h.pre.core hqg, by rw [hl, hlv]; exact hput, h.pre.ne, fun y hy => ?_⟩, ?_, h.sepQ, h.sepL, fun b hb => ⟨(h.sepA b hb).1, (h.sepA b hb).2.1, (h.sepA b hb).2.2.1, Nat.lt_of_lt_of_le (h.sepA b hb).2.2.2.1 ho.size, (h.sepA b hb).2.2.2.2⟩, h.inQ, fun b hb => ⟨(h.inR b hb).1, Nat.lt_of_lt_of_le (h.inR b hb).2 ho.size⟩⟩, ho.mono (fun b _ e => by rw [show b = g from e]; exact (h.sepL g hob).2)⟩
  · rcases List.mem_or_eq_of_mem_set hy with hm | rfl
    · obtain ⟨p, c, h1, h2, h3, h4⟩ := h.pre.each y hm
      exact ⟨p, c, h1, h2, h3, h4.off ho hA⟩
    · obtain ⟨p, c, h1, h2, h3, h4⟩ := hx
      exact ⟨p, c, h1, h2, h3, h4.off ho hA⟩
  · obtain ⟨R, g1, g2⟩ := h.disk
    exact ⟨R, g1.off ho (fun b hb e => (h.sepL g hob).1 (show Fr g from (show b = g from e) ▸ g2 b hb)), g2⟩
/-- The first segment is left out. -/
theorem dropped {x : RRow} {g o c : Nat} (h : RStoreAt w q r (x :: rows) synced lv A X Fr F) (hlv : lv = .slice (some ⟨g, o, none⟩) (rows.length + 1) c) :
    RStoreAt (w.setCell ⟨q, 1, none⟩ (.slice (some ⟨g, o + 4, none⟩) rows.length (c - 1))) q r rows synced (.slice (some ⟨g, o + 4, none⟩) rows.length (c - 1)) A X Fr F ∧
    Off F w (w.setCell ⟨q, 1, none⟩ (.slice (some ⟨g, o + 4, none⟩) rows.length (c - 1))) := by
  have hob : lv.ownBlock = some g := by rw [hlv]; rfl
  have ho : Off (Only q) w (w.setCell ⟨q, 1, none⟩ (.slice (some ⟨g, o + 4, none⟩) rows.length (c - 1))) := (Off.refl (Only q) w).set 1 _
  have hqg : g ≠ q := fun e => h.pre.ne (by rw [hob, e])
  have hA : ∀ b, A b → ¬ Only q b := fun b hb e => (h.sepA b hb).2.1 e
  have hrow := h.pre.row
  rw [hlv] at hrow
  have ht := hrow.tail
  rw [List.flatMap_cons, show (rsegCells x ++ rows.flatMap rsegCells).drop 4 = rows.flatMap rsegCells from rfl] at ht
  refine ⟨⟨⟨(Heap.set h.pre.core 1 _).trans rfl, ht.off ho (fun k hk e => by cases hk; exact hqg e), fun e => by cases e; exact hqg rfl, fun y hy => ?_⟩, ?_, h.sepQ, fun k hk => ?_, fun b hb => ⟨(h.sepA b hb).1, (h.sepA b hb).2.1, fun e => (h.sepA b hb).2.2.1 (by rw [hob]; cases e; rfl), Nat.lt_of_lt_of_le (h.sepA b hb).2.2.2.1 ho.size, (h.sepA b hb).2.2.2.2⟩, h.inQ, fun b hb => ⟨(h.inR b hb).1, Nat.lt_of_lt_of_le (h.inR b hb).2 ho.size⟩⟩, ho.mono (fun b _ e => by rw [show b = q from e]; exact h.inQ)⟩
  · obtain ⟨p, c, h1, h2, h3, h4⟩ := h.pre.each y (by simp [hy])
    exact ⟨p, c, h1, h2, h3, h4.off ho hA⟩
  · obtain ⟨R, g1, g2⟩ := h.disk
    exact ⟨R, g1.off ho (fun b hb e => h.sepQ (show Fr q from (show b = q from e) ▸ g2 b hb)), g2⟩
  · cases hk
    exact h.sepL g hob
end RStoreAt
namespace RefL
/-- The last segment's cells, as last tells them. -/
theorem last_form {w : World} {q r synced k : Nat} {rows : List RRow} {lv : Value} {A : Nat → Prop} (h : RPre w q r rows synced lv A) (hn : rows.length = k + 1) :
    ∃ a p c, (rows[k]'(by omega)).1 = a ∧ (rows[k]'(by omega)).2 = .slice p a.bodies.length c ∧ a.bodies.length ≤ c ∧ c ≤ 9223372036854775807 ∧ Lies A w p a.bodies ∧ rsegAgg (rows[k]'(by omega)) = .agg #[.int .u64 a.first, .int .i64 a.bodies.length, .int .i64 a.size, .slice p a.bodies.length c] := by
  obtain ⟨p, c, h1, h2, h3, h4⟩ := h.each _ (List.getElem_mem (show k < rows.length by omega))
  exact ⟨_, p, c, rfl, h1, h2, h3, h4, by unfold rsegAgg; rw [h1]⟩
end RefL
end Go.Proofs.YtnppdcegpojmbaaGreatDoor
