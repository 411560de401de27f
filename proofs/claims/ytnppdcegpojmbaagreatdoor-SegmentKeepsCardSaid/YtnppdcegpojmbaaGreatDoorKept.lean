/- Texts that a log keeps: those that are not too long. -/
import Derived.Test.YtnppdcegpojmbaaGreatDoorLaw2
namespace Go.Proofs.YtnppdcegpojmbaaGreatDoor
open Go Go.RowKit
namespace Law
/-- The texts that are not too long. -/
def keptL (l : List ByteArray) : List (List UInt8) := (l.filter fun t => decide (t.size ≤ 2000)).map fun t => t.data.toList
theorem keptL_append (a b : List ByteArray) : keptL (a ++ b) = keptL a ++ keptL b := by unfold keptL; rw [List.filter_append, List.map_append]
theorem keptL_short {t : ByteArray} (h : t.size ≤ 2000) : keptL [t] = [t.data.toList] := by
  unfold keptL; rw [List.filter_cons_of_pos (by simpa using h)]; rfl
theorem keptL_long {t : ByteArray} (h : 2000 < t.size) : keptL [t] = [] := by
  unfold keptL; rw [List.filter_cons_of_neg (by simpa using h)]; rfl
theorem keptL_len (l : List ByteArray) : (keptL l).length ≤ l.length := by
  unfold keptL; rw [List.length_map]; exact List.length_filter_le _ _
theorem keptL_small (l : List ByteArray) : ∀ b ∈ keptL l, b.length ≤ 2000 := by
  intro b hb
  unfold keptL at hb
  obtain ⟨t, ht, rfl⟩ := List.mem_map.1 hb
  have := (List.mem_filter.1 ht).2
  simpa using this
theorem keptL_take (l : List ByteArray) {i : Nat} (h : i < l.length) : keptL (l.take (i + 1)) = keptL (l.take i) ++ keptL [l[i]] := by
  rw [List.take_succ_eq_append_getElem h, keptL_append]
theorem keptL_at (l : List ByteArray) {i : Nat} (h : i < l.length) (hs : l[i].size ≤ 2000) : (keptL l)[(keptL (l.take i)).length]? = some l[i].data.toList := by
  have e : l = l.take i ++ ([l[i]] ++ l.drop (i + 1)) := by
    rw [List.singleton_append, ← List.drop_eq_getElem_cons h, List.take_append_drop]
  have h2 : keptL l = keptL (l.take i) ++ (keptL [l[i]] ++ keptL (l.drop (i + 1))) := by
    rw [← keptL_append, ← keptL_append, ← e]
  rw [h2, List.getElem?_append_right (Nat.le_refl _), Nat.sub_self, keptL_short hs]
  rfl
theorem kept_sum (bs : List (List UInt8)) (h : ∀ b ∈ bs, b.length ≤ 2000) (hl : bs.length ≤ 1000) : GoodLog.sum ([] ++ [(⟨1, bs⟩ : Grp)]) ≤ bs.length * 2024 := by
  have := framesL_len bs h 1 (by omega)
  unfold GoodLog.sum
  simpa [Grp.txt] using this
variable {n N : Nat} {A : Nat → Prop} {w : World} {lg d k : Nat} {bs : List (List UInt8)}
/-- Append of any text: what is too long is refused, and changes nothing. -/
theorem append_kept (h : Held 1000000 n N A w lg d 0 1 [] ⟨1, bs⟩ k) (body : ByteArray) (hb : body.size ≤ 140737488355328) (hs : ∀ b ∈ bs, b.length ≤ 2000) (hl : bs.length ≤ 100) (hN : N ≤ 1000) :
    Calls Tryz.prog 13 #[.pointer (some ⟨lg, 0, none⟩), .string body] w fun e w' =>
      ∃ q er : Int, ∃ N' : Nat, e = .returned (.tuple #[.int .u64 q, .int .i64 er]) ∧ N' ≤ N + 1 ∧ Held 1000000 n N' A w' lg d 0 1 [] ⟨1, bs ++ keptL [body]⟩ k ∧ Off (Rest n A) w w' := by
  by_cases hsz : body.size ≤ 2000
  · have hp := Frame.putF_len (1 + bs.length) body.data.toList (by omega) (show body.data.toList.length ≤ 2000 by simpa using hsz)
    have hq : body.data.toList.length ≤ 2000 := by simpa using hsz
    have hsum := kept_sum bs hs (by omega)
    refine (h.append body hsz (by show _ + (Frame.putF (1 + bs.length) body.data.toList).length ≤ _; omega) (by show 1 + bs.length + 1 ≤ _; omega) (by omega)).mono ?_
    rintro e w' ⟨rfl, h', ho⟩
    refine ⟨_, _, N + 1, rfl, Nat.le_refl _, ?_, ho⟩
    rw [keptL_short hsz]
    exact h'
  · refine (h.append_long body (by omega) hb (by show 1 + bs.length + 1 ≤ _; omega)).mono ?_
    rintro e w' ⟨rfl, h', ho⟩
    refine ⟨_, _, N, rfl, by omega, ?_, ho⟩
    rw [keptL_long (by omega), List.append_nil]
    exact h'
end Law
end Go.Proofs.YtnppdcegpojmbaaGreatDoor
