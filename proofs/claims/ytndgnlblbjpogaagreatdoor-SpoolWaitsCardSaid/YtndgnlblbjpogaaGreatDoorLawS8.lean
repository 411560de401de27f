/- The spool's laws: a row of texts: set, get. -/
import Derived.Test.YtndgnlblbjpogaaGreatDoorLawS3
import Derived.Test.YtndgnlblbjpogaaGreatDoorWordsS
import Derived.Test.YtndgnlblbjpogaaGreatDoorSLaws3
namespace Go.Proofs.YtndgnlblbjpogaaGreatDoor
open Go Go.RowKit Go.Shelf Led Words
theorem elemStr : ElemOk Tryz.prog 50 9 1 16 where
  ht := Tryz.underlying50
  info := by
    obtain ⟨i0, hi0, hz0, hzs, hzb⟩ := info_parts (show (Tryz.prog.info? 9).map (fun i => (i.zero, i.size, i.bytes)) = some (some (.string ⟨#[]⟩), 1, 16) by kernel_rfl)
    exact ⟨i0, _, hi0, hz0, hzs, hzb, rfl⟩
  few := by decide
  pos := by decide
def textsV (B : List ByteArray) : List Value := B.map Value.string
theorem texts_one (B : List ByteArray) : ∀ u ∈ textsV B, u.oneCell' = true := by
  intro u hu
  obtain ⟨s, _, rfl⟩ := List.mem_map.1 hu
  rfl
theorem texts_len (B : List ByteArray) : (textsV B).length = B.length := List.length_map ..
namespace LawS
set_option maxHeartbeats 1000000 in
set_option maxRecDepth 100000 in
theorem set_any (w : World) (base : Nat) (v : Value) (B : List ByteArray) (q : Nat) (s : ByteArray) (hown : w.ownsRow base 9 1 v B.length (textsV B)) (hq : q ≤ 1000) (hB : B.length ≤ q) :
    Calls Tryz.prog 27 #[v, .int .u64 q, .string s] w fun e w' => ∃ v', e = .returned v' ∧ w'.ownsRow w.heap.size 9 1 v' (setV B q s).length (textsV (setV B q s)) ∧ Off None w w' := by
  have hrd : ∃ A c, v = .slice A B.length c ∧ Reads w w.heap.size 1 A B.length (textsV B) := by
    obtain ⟨A, c, rfl⟩ := own_form hown
    exact ⟨A, c, rfl, Reads.of_own hown⟩
  obtain ⟨A, c, rfl, hrd⟩ := hrd
  obtain ⟨i0, z0, hi0, hz0, hi1, hi2, hi3⟩ := elemStr.info
  have HRD := Lib.hid hrd
  have I0 := Lib.hid hi0
  have Z0 := Lib.hid hz0
  have Z1 := Lib.hid hi1
  have Z2 := Lib.hid hi2
  have Z3 := Lib.hid hi3
  have hq' : ¬ (1000 : Int) < (q : Int) := by omega
  have hlm : B.length ≤ 1000 := by omega
  obtain ⟨m, hm⟩ : ∃ m, m = q + 1 - B.length := ⟨_, rfl⟩
  have HM := Lib.hid hm
  clear hm hown hrd hi0 hz0 hi1 hi2 hi3
  go_enter Tryz.func27, Tryz.ntmps27
  go_wp2_with (at_builtin; refine wpList_append_any _ rfl (.tmp 11) (.tmp 12) _ rfl w.heap.size 9 i0 _ 1 16 Tryz.underlying50 I0.out Z0.out Z1.out Z2.out Z3.out (by omega) (.slice (some ⟨w.heap.size, 0, none⟩) 0 0) 0 [] rfl ⟨rfl, .inr ⟨w.heap.size, 0, #[], rfl, Nat.le_refl _, Heap.alloc_new _ _, Nat.le_refl _, by decide, rfl, rfl⟩⟩ w.heap.size A B.length c (textsV B) rfl (HRD.out.alloc (Nat.le_refl _) _) (texts_one B) (by unfold maxLen; omega) (by omega) (by rw [Heap.alloc_size]; omega) ?_; intro v1 w3 hown1 hg1 hat1)
  have ho3 : Off None w w3 := ((Off.refl None w).alloc _).grown hg1 (fun k hk => .inr (by cases hk; exact Nat.le_refl _))
  rw [List.nil_append, Nat.zero_add] at hown1
  have H3 := Lib.hid (And.intro hown1 ho3)
  clear ho3 hown1 hg1 hat1
  go_loopg [7] m (fun gg s7 wr => ∃ k g0 : Nat, g0 = gg ∧ k + g0 = m ∧ (wr.ownsRow w.heap.size 9 1 s7 (B.length + k) (textsV (B ++ List.replicate k ByteArray.empty))) ∧ Off None w wr)
  case atStart => exact ⟨0, m, rfl, by omega, by rw [Nat.add_zero, List.replicate_zero, List.append_nil]; exact H3.out.1, H3.out.2⟩
  case round =>
    obtain ⟨k, g0, hg0, hk, hown, ho⟩ := hrel
    obtain ⟨A7, c7, hs7⟩ := own_form hown
    subst hs7
    have HG := Lib.hid hg0
    have HR := Lib.hid (And.intro hown ho)
    clear hg0 hown ho H3
    have hbk : B.length + k ≤ 2000 := by have := HM.out; omega
    have hwu : IntKind.u64.wrap ((B.length + k : Nat) : Int) = ((B.length + k : Nat) : Int) := by simp [IntKind.wrap, IntKind.bits, IntKind.signed]; omega
    by_cases hkm : k < m
    · have hle : ((B.length + k : Nat) : Int) ≤ (q : Int) := by have := HM.out; omega
      obtain ⟨x, hx⟩ : ∃ x, x = B.length + k := ⟨_, rfl⟩
      rw [← hx] at hwu hle HR ⊢
      have HX := Lib.hid hx
      clear hx
      go_wp2_with (at_builtin; refine wpList_push rfl (.tmp 19) (.tmp 20) rfl elemStr w.heap.size (.slice A7 x c7) x (textsV (B ++ List.replicate k ByteArray.empty)) rfl HR.out.1 #[.string ⟨#[]⟩] rfl rfl (by intro u hu; simp at hu; rw [hu]; rfl) (by omega) HR.out.2.size ?_; intro g cap w5 hown5 hps)
      have ho5 : Off None w w5 := HR.out.2.trans hps.off (fun b hb h => by have := (HR.out.1.lt b h).1; omega)
      have H5 := Lib.hid (And.intro hown5 ho5)
      clear hown5 hps ho5
      go_wp2_with fail
      go_roundg (g0 - 1)
      case measure => have := HG.out; omega
      case rel =>
        refine ⟨k + 1, g0 - 1, rfl, by omega, ?_, H5.out.2⟩
        have h1 := H5.out.1
        have e : textsV (B ++ List.replicate k ByteArray.empty) ++ #[Value.string ⟨#[]⟩].toList = textsV (B ++ List.replicate (k + 1) ByteArray.empty) := by
          unfold textsV
          rw [List.replicate_succ', ← List.append_assoc, List.map_append (l₁ := B ++ List.replicate k ByteArray.empty)]
          rfl
        rw [e] at h1
        rw [show B.length + (k + 1) = x + 1 by have := HX.out; omega]
        exact h1
    · have hkm' : k = m := by omega
      have hle : ¬ ((B.length + k : Nat) : Int) ≤ (q : Int) := by have := HM.out; omega
      have hn : B.length + k = q + 1 := by have := HM.out; omega
      have hsv : setV B q s = (B ++ List.replicate k ByteArray.empty).set q s := by
        unfold setV
        rw [if_neg (by omega), show q + 1 - B.length = k by omega]
      have hlen : (setV B q s).length = q + 1 := by rw [hsv, List.length_set, List.length_append, List.length_replicate]; omega
      rw [hn] at hwu hle HR ⊢
      obtain ⟨g, cp, hv, hgb, hgl⟩ := HR.out.1.form (by omega)
      cases hv
      have hown := HR.out.1
      rcases hown.2 with ⟨hv, _⟩ | ⟨g', cap', cur, hv, _, hblk, hcc, hmx, hsz, ht⟩
      · cases hv
      cases hv
      obtain ⟨u, ek⟩ : ∃ u, wr.cell? ⟨g, q, none⟩ = some u := ⟨cur[q]'(by omega), by rw [Heap.cell hblk, Array.getElem?_eq_getElem (by omega)]⟩
      have fk : wr.frozen? ⟨g, q, none⟩ = false := Heap.frozen hblk q
      have hi1 : (q : Int) < ((q + 1 : Nat) : Int) := by omega
      have hcp : q + 1 ≤ c7 := hcc
      have hst := (hown.stored q (.string s)).1
      have HST := Lib.hid (And.intro hst (And.intro hsv hlen))
      clear hkm hkm' hn hk hown hblk hcc hmx hsz ht hsv hlen hst
      go_wp2_with fail
      go_ret
      refine ⟨_, rfl, ?_, HR.out.2.setCell (p := ⟨g, q, none⟩) (.inr hgb) _⟩
      rw [HST.out.2.2, HST.out.2.1]
      have e : textsV ((B ++ List.replicate k ByteArray.empty).set q s) = (textsV (B ++ List.replicate k ByteArray.empty)).set q (.string s) := List.map_set
      rw [e]
      exact HST.out.1
set_option maxRecDepth 100000 in
theorem get_any (w : World) (base : Nat) (v : Value) (B : List ByteArray) (q : Nat) (hown : w.ownsRow base 9 1 v B.length (textsV B)) (hq : q < B.length) (hB : B.length ≤ 2000) :
    Calls Tryz.prog 29 #[v, .int .u64 q] w fun e w' => e = .returned (.string (getV B q)) ∧ Off None w w' := by
  obtain ⟨A, c, rfl⟩ := own_form hown
  obtain ⟨g, cp, hv, hgb, hgl⟩ := hown.form (by omega)
  cases hv
  have hcc : B.length ≤ c ∧ c ≤ maxLen := by
    rcases hown.2 with ⟨hv, _⟩ | ⟨g', cap', cur, hv, _, hblk, hcc, hmx, _⟩
    · cases hv
    · cases hv; exact ⟨hcc, hmx⟩
  have hval : getV B q = B[q] := by
    unfold getV
    rw [List.getD_eq_getElem?_getD, List.getElem?_eq_getElem hq]
    rfl
  have ek : w.cell? ⟨g, q, none⟩ = some (.string (getV B q)) := by
    have h1 := hown.cells (g := g) rfl q (.string (getV B q)) (by unfold textsV; rw [List.getElem?_map, List.getElem?_eq_getElem hq, hval]; rfl)
    rw [Addr.add_lit, Nat.zero_add] at h1
    exact h1
  obtain ⟨x, hx⟩ : ∃ x, x = getV B q := ⟨_, rfl⟩
  obtain ⟨m, hm⟩ : ∃ m, m = B.length := ⟨_, rfl⟩
  rw [← hx] at ek ⊢
  rw [← hm] at hq hB hcc ⊢
  have hwu : IntKind.u64.wrap (m : Int) = (m : Int) := by simp [IntKind.wrap, IntKind.bits, IntKind.signed]; omega
  have hlt : (q : Int) < (m : Int) := by omega
  obtain ⟨hc1, hc2⟩ := hcc
  clear hown hval hx hm hgb hgl
  unfold maxLen at hc2
  go_enter Tryz.func29, Tryz.ntmps29
  go_wp2_with fail
  go_ret
  exact ⟨rfl, Off.refl _ _⟩
end LawS
end Go.Proofs.YtndgnlblbjpogaaGreatDoor
