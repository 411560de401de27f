/- The walks of Remove, New, named, SyncDir. · The walk of Create. · The walk of List. -/
import Derived.Test.YtndgnlblbjpogaaGreatDoorDisk6
import Derived.Test.YtndgnlblbjpogaaGreatDoorShelf
import Derived.Sort.KeysCollected
namespace Go.Proofs.YtndgnlblbjpogaaGreatDoor
open Go Go.RowKit
namespace DiskW
theorem begin_len (D : DiskV) : D.begin.1.names = D.names ∧ D.begin.1.files = D.files ∧ D.begin.1.moves = D.moves := by
  unfold DiskV.begin; split <;> exact ⟨rfl, rfl, rfl⟩
set_option maxRecDepth 100000 in
theorem remove_any (w : World) (d : Nat) (D : DiskV) (F : Nat → Prop) (h : DiskIn w d D F) (name : ByteArray) (hn : name.size ≤ maxLen) (hm : D.names.length < maxLen) (hb : D.moves.length ≤ 1099511627776) :
    Calls Tryz.prog 99 #[.pointer (some ⟨d, 0, none⟩), .string name] w fun e w' =>
      e = .returned (.int .i64 (D.remove name).2) ∧ DiskIn w' d (D.remove name).1 (Grow F w w') ∧ Off F w w' := by
  obtain ⟨R, h, hF⟩ := h
  have HF := Lib.hid hF; clear hF
  rcases find_cases D h.wf name with ⟨D1, er, her, hfd, _⟩ | ⟨i, f, hfd, hf, _⟩
  · have H := Lib.hid h; clear h
    have hsp : D.remove name = (D1, er) := by unfold DiskV.remove; rw [hfd]
    have hfa := find_any w d D R H.out name hn
    rw [hfd, show fptr R none = .pointer none from rfl] at hfa
    have HFA := Lib.hid hfa
    have HS := Lib.hid hsp
    have t1 : (er != 0) = true := by rw [bne_iff_ne]; exact her
    clear hfa hsp hfd her hb
    go_enter Tryz.func99, Tryz.ntmps99
    go_wp2_with fail
    refine HFA.out.mono ?_
    rintro e w1 ⟨rfl, h1, ho⟩
    have H1 := Lib.hid h1; clear h1
    have HO := Lib.hid ho; clear ho
    go_wp2
    go_ret
    rw [HS.out]
    exact ⟨rfl, ⟨R, H1.out, fun b hb => .inl (HF.out b hb)⟩, off_core H.out HF.out HO.out⟩
  · have H := Lib.hid h; clear h
    have hsp : D.remove name = (D.begin.1.moved ⟨name, ByteArray.empty, 0⟩, 0) := by unfold DiskV.remove; rw [hfd]
    have hfa := find_any w d D R H.out name hn
    obtain ⟨b, cv, e1, e2, e3, e4, e5⟩ := H.out.each i f hf
    rw [hfd, show fptr R (some i) = .pointer (some ⟨b, 0, none⟩) from by rw [fptr, e1]] at hfa
    have HFA := Lib.hid hfa
    have HS := Lib.hid hsp
    have hm' : D.begin.1.names.length < maxLen := by rw [(begin_len D).1]; exact hm
    have hb' : D.begin.1.moves.length ≤ 1099511627776 := by rw [(begin_len D).2.2]; exact hb
    have HM := Lib.hid hm'
    have HB := Lib.hid hb'
    clear hfa hsp hfd hf e1 e2 e3 e4 e5 hb hm hm' hb'
    go_enter Tryz.func99, Tryz.ntmps99
    go_wp2_with fail
    refine HFA.out.mono ?_
    rintro e w1 ⟨rfl, h1, ho⟩
    have hlt := Heap.lt h1.core
    have H1 := Lib.hid h1; clear h1
    have HO := Lib.hid ho; clear ho
    go_wp2_with fail
    refine (moved_any _ d D.begin.1 F ⟨R, H1.out, HF.out⟩ ⟨name, ByteArray.empty, 0⟩ hn (Nat.zero_le _) HM.out (Nat.zero_le _) (fun h => absurd rfl h) HB.out).mono ?_
    rintro e w2 ⟨rfl, h2, ho2⟩
    have H2 := Lib.hid h2; clear h2
    have HO2 := Lib.hid ho2; clear ho2
    go_wp2
    go_ret
    rw [HS.out]
    have hoF := off_core H.out HF.out HO.out
    exact ⟨rfl, H2.out.mono (fun b _ hb => Grow.left hoF b hb), off_trans hoF HO2.out⟩
/-- A disk of this much room: no file, no name. -/
theorem new_wf (room : Int) (h : room ≤ 9223372036854775807) : (DiskV.new room).Wf where
  room := by unfold DiskV.new; dsimp; omega
  ops := by unfold DiskV.new; dsimp; omega
  fail := by unfold DiskV.new; dsimp; omega
  left := by unfold DiskV.new; dsimp; omega
  names := by intro p hp; cases hp
  base := by intro p hp; cases hp
  moves := by intro p hp; cases hp
theorem new_at (w : World) (room : Int) (h : room ≤ 9223372036854775807) :
    DiskAt (((w.alloc (.map #[] 0)).alloc (.map #[] 0)).alloc (.cells #[.int .i64 (max room 0), .slice none 0 0, .map (some w.heap.size), .map (some (w.heap.size + 1)), .slice none 0 0, .int .i64 0, .int .i64 0, .int .i64 (-1)] 97))
      (w.heap.size + 1 + 1) (DiskV.new room) ⟨.slice none 0 0, .slice none 0 0, w.heap.size, w.heap.size + 1, [], [], fun k => if k = w.heap.size + 1 + 1 then 1 else if k = w.heap.size then 2 else if k = w.heap.size + 1 then 3 else 0⟩ := by
  have hs1 : (w.alloc (.map #[] 0)).heap.size = w.heap.size + 1 := Heap.alloc_size _ _
  have hs2 : ((w.alloc (.map #[] 0)).alloc (.map #[] 0)).heap.size = w.heap.size + 1 + 1 := by rw [Heap.alloc_size, hs1]
  have hn : ∀ o o' : Obj, MapAt (((w.alloc (.map #[] 0)).alloc o).alloc o') w.heap.size [] := fun o o' =>
    (((Off.refl None _).alloc o).alloc o').map (World.ownsMap_made (H := Unit) w _ _ _) (fun h => h)
  have hb : ∀ o : Obj, MapAt (((w.alloc (.map #[] 0)).alloc (.map #[] 0)).alloc o) (w.heap.size + 1) [] := fun o => by
    have h1 := World.ownsMap_made (H := Unit) (w.alloc (.map #[] 0)) Tryz.prog 9 (Go.plainElem Tryz.prog 3)
    rw [hs1] at h1
    exact ((Off.refl None _).alloc o).map h1 (fun h => h)
  refine { wf := new_wf room h, core := ?_, frow := World.ownsRow_nil _ _ _ _, each := ?_, clen := rfl, names := hn _ _, base := hb _, mrow := World.ownsRow_nil _ _ _ _, rD := ?_, rN := ?_, rB := ?_, rF := ?_, rM := ?_, old := ?_ }
  · have := Heap.alloc_new ((w.alloc (.map #[] 0)).alloc (.map #[] 0)) (.cells #[.int .i64 (max room 0), .slice none 0 0, .map (some w.heap.size), .map (some (w.heap.size + 1)), .slice none 0 0, .int .i64 0, .int .i64 0, .int .i64 (-1)] 97)
    rw [hs2] at this
    exact this
  · intro i f hf; cases hf
  · show (if _ then _ else _) = 1
    rw [if_pos rfl]
  · show (if w.heap.size = w.heap.size + 1 + 1 then 1 else _) = 2
    rw [if_neg (by omega), if_pos rfl]
  · show (if w.heap.size + 1 = w.heap.size + 1 + 1 then 1 else if w.heap.size + 1 = w.heap.size then 2 else if w.heap.size + 1 = w.heap.size + 1 then 3 else 0) = 3
    rw [if_neg (by omega), if_neg (by omega), if_pos rfl]
  · intro k hk; cases hk
  · intro k hk; cases hk
  · intro k hk
    have hk' : (if k = w.heap.size + 1 + 1 then 1 else if k = w.heap.size then 2 else if k = w.heap.size + 1 then 3 else 0) ≠ 0 := hk
    rw [Heap.alloc_size, hs2]
    clear hb hn
    dsimp only at hk hk' ⊢
    split at hk'
    · omega
    · split at hk'
      · omega
      · split at hk'
        · omega
        · omega
set_option maxRecDepth 100000 in
theorem new_any (w : World) (room : Int) (h1 : room ≤ 9223372036854775807) :
    Calls Tryz.prog 34 #[.int .i64 room] w fun e w' =>
      ∃ d, e = .returned (.pointer (some ⟨d, 0, none⟩)) ∧ DiskIn w' d (DiskV.new room) (fun b => w.heap.size ≤ b ∧ b < w'.heap.size) ∧ Off None w w' := by
  have hmk : ∀ w : World, (Instr.makeMap 93 none).run Tryz.prog w = .ok (.map (some w.heap.size)) (w.alloc (.map #[] 0)) := fun w => run_makeMap _ w
  go_enter Tryz.func34, Tryz.ntmps34
  go_wp2
  go_ret
  refine ⟨_, rfl, ⟨_, new_at w room h1, fun b hb => ?_⟩, (((Off.refl None w).alloc _).alloc _).alloc _⟩
  rw [Heap.alloc_size, Heap.alloc_size, Heap.alloc_size]
  have hk' : (if b = w.heap.size + 1 + 1 then 1 else if b = w.heap.size then 2 else if b = w.heap.size + 1 then 3 else 0) ≠ 0 := hb
  split at hk'
  · omega
  · split at hk'
    · omega
    · split at hk'
      · omega
      · omega
theorem named_all (s : ByteArray) : DiskV.named s = ((s.data.toList.all fun c => decide (33 ≤ c.toNat) && decide (c.toNat ≤ 126)) && decide (s.size ≠ 0) && decide (s.size ≤ 24)) := rfl
def okC (c : UInt8) : Bool := decide (33 ≤ c.toNat) && decide (c.toNat ≤ 126)
theorem take_all (s : ByteArray) (k : Nat) (h : k < s.size) : (s.data.toList.take (k + 1)).all okC = ((s.data.toList.take k).all okC && okC s[k]) := by
  rw [show s.data.toList.take (k + 1) = s.data.toList.take k ++ [s[k]] from by rw [List.take_succ_eq_append_getElem (by simpa using h)]; rfl, List.all_append]
  simp
theorem take_off (s : ByteArray) (k : Nat) (h : k < s.size) (hc : okC s[k] = false) : s.data.toList.all okC = false := by
  rw [Bool.eq_false_iff]
  intro hall
  have h1 := List.all_eq_true.1 hall s[k] (by show s.data[k] ∈ _; exact Array.getElem_mem_toList _)
  rw [hc] at h1
  cases h1
set_option maxRecDepth 100000 in
theorem named_any (w : World) (s : ByteArray) (hs : s.size ≤ maxLen) :
    Calls Tryz.prog 163 #[.string s] w fun e w' => e = .returned (.bool (DiskV.named s)) ∧ w' = w := by
  unfold maxLen at hs
  go_enter Tryz.func163, Tryz.ntmps163
  go_wp2
  go_loop [6] (fun i => ∃ k : Nat, k ≤ s.size ∧ i = .int .i64 k ∧ Aside ((s.data.toList.take k).all okC = true)) (fun i => s.size - (intOf i).toNat)
  case atStart => exact ⟨0, Nat.zero_le _, rfl, rfl⟩
  case round =>
    obtain ⟨k, hk, rfl, ha⟩ := hrel
    by_cases hlt : k < s.size
    · have hb := s[k].toNat_lt
      by_cases h1 : (s[k].toNat : Int) < 33
      · go_wp2
        go_ret
        have := take_off s k hlt (by unfold okC; simp; omega)
        refine ⟨?_, rfl⟩
        rw [named_all, show (fun c : UInt8 => decide (33 ≤ c.toNat) && decide (c.toNat ≤ 126)) = okC from rfl, this]
        rfl
      · by_cases h2 : (126 : Int) < (s[k].toNat : Int)
        · go_wp2
          go_ret
          have := take_off s k hlt (by unfold okC; simp; omega)
          refine ⟨?_, rfl⟩
          rw [named_all, show (fun c : UInt8 => decide (33 ≤ c.toNat) && decide (c.toNat ≤ 126)) = okC from rfl, this]
          rfl
        · go_wp2
          go_round
          case rel =>
            refine ⟨k + 1, by omega, by go_num, ?_⟩
            show _ = true
            rw [take_all s k hlt, ha.out]
            unfold okC
            simp
            omega
          case measure => simp [intOf]; omega
    · have hall : s.data.toList.all okC = true := by
        have := ha.out
        rwa [List.take_of_length_le (by simp; omega)] at this
      have HA := Lib.hid hall
      clear ha hall
      by_cases hz : s.size = 0
      · have t1 : s.toList = [] := Heap.str_nil hz
        go_wp2
        go_ret
        refine ⟨?_, rfl⟩
        rw [named_all, show (fun c : UInt8 => decide (33 ≤ c.toNat) && decide (c.toNat ≤ 126)) = okC from rfl, HA.out]
        simp [hz]
      · have t2 : (!s.toList.isEmpty) = true := Heap.str_ne hz
        go_wp2
        go_ret
        refine ⟨?_, rfl⟩
        rw [named_all, show (fun c : UInt8 => decide (33 ≤ c.toNat) && decide (c.toNat ≤ 126)) = okC from rfl, HA.out]
        have he : decide ((s.size : Int) ≤ 24) = decide (s.size ≤ 24) := by rw [decide_eq_decide]; omega
        simp [hz, he]
theorem DiskAt.synced {w w' : World} {d n : Nat} {D : DiskV} {R : DiskRep} (h : DiskAt w d D R) (ho : Off (Only d) w w') (hn : w.heap.size ≤ n) (hnl : n < w'.heap.size) (hm : MapAt w' n D.names)
    (hc : w'.heap[d]? = some (.cells (coreCells { D with base := D.names, moves := [] } { R with bm := n, mv := .slice none 0 0 }) 97 (0, 0))) :
    DiskAt w' d { D with base := D.names, moves := [] } { R with bm := n, mv := .slice none 0 0, role := fun k => if k < w.heap.size then R.role k else if k = n then 3 else 0 } := by
  obtain ⟨R', hR⟩ : ∃ R' : DiskRep, R' = { R with bm := n, mv := .slice none 0 0, role := fun k => if k < w.heap.size then R.role k else if k = n then 3 else 0 } := ⟨_, rfl⟩
  have hro : ∀ k, R.role k ≠ 0 → R'.role k = R.role k := fun k hk => by rw [hR]; exact if_pos (h.old k hk)
  have hnew : R'.role n = 3 := by rw [hR]; show (if n < _ then _ else _) = 3; rw [if_neg (by omega), if_pos rfl]
  have hold : ∀ k, R'.role k ≠ 0 → k < w'.heap.size := fun k hk => by
    have hs := ho.size
    by_cases hlt : k < w.heap.size
    · omega
    · rw [hR] at hk
      have hk' : (if k < w.heap.size then R.role k else if k = n then 3 else 0) ≠ 0 := hk
      rw [if_neg hlt] at hk'
      split at hk'
      · omega
      · exact absurd rfl hk'
  rw [← hR]
  have e1 : R'.fbs = R.fbs := by rw [hR]
  have e2 : R'.cvs = R.cvs := by rw [hR]
  have e3 : R'.fv = R.fv := by rw [hR]
  have e4 : R'.nm = R.nm := by rw [hR]
  have e5 : R'.bm = n := by rw [hR]
  have e6 : R'.mv = .slice none 0 0 := by rw [hR]
  have hc' : w'.heap[d]? = some (.cells (coreCells { D with base := D.names, moves := [] } R') 97 (0, 0)) := by rw [hR]; exact hc
  clear hR hc
  have far : ∀ k, R.role k ≠ 0 → R.role k ≠ 1 → ¬ Only d k := by
    intro k h0 h1 hk
    rw [show k = d from hk] at h1
    exact h1 h.rD
  refine { wf := ⟨h.wf.room, h.wf.ops, h.wf.fail, h.wf.left, h.wf.names, h.wf.names, fun m hm => absurd hm (by simp)⟩, core := hc', frow := ?_, each := ?_, clen := by rw [e2]; exact h.clen, names := ?_, base := by rw [e5]; exact hm, mrow := by rw [e6]; exact World.ownsRow_nil _ _ _ _, rD := ?_, rN := ?_, rB := by rw [e5]; exact hnew, rF := ?_, rM := by rw [e6]; intro k hk; (exact absurd hk (by simp [Value.ownBlock])), old := hold }
  · rw [e3, e1]; exact ho.row h.frow (fun k hk => far k (by rw [h.rF k hk]; omega) (by rw [h.rF k hk]; omega))
  · intro j g hj
    obtain ⟨b1, cv1, g1, g2, g3, g4, g5⟩ := h.each j g hj
    exact ⟨b1, cv1, by rw [e1]; exact g1, by rw [e2]; exact g2, g3.off ho (far b1 (by omega) (by omega)) (fun k hk => far k (by rw [g5 k hk]; omega) (by rw [g5 k hk]; omega)), by rw [hro b1 (by omega), g4], fun k hk => by rw [hro k (by rw [g5 k hk]; omega), g5 k hk]⟩
  · rw [e4]; exact ho.map h.names (far R.nm (by rw [h.rN]; omega) (by rw [h.rN]; omega))
  · rw [hro d (by rw [h.rD]; omega), h.rD]
  · rw [e4, hro _ (by rw [h.rN]; omega), h.rN]
  · intro k hk; rw [e3] at hk; rw [hro k (by rw [h.rF k hk]; omega), h.rF k hk]
set_option maxRecDepth 100000 in
theorem syncDir_any (w : World) (d : Nat) (D : DiskV) (F : Nat → Prop) (h : DiskIn w d D F) :
    Calls Tryz.prog 100 #[.pointer (some ⟨d, 0, none⟩)] w fun e w' =>
      e = .returned (.int .i64 D.syncDir.2) ∧ DiskIn w' d D.syncDir.1 (Grow F w w') ∧ Off F w w' := by
  obtain ⟨R, h, hF⟩ := h
  have HF := Lib.hid hF; clear hF
  have hfa := begin_any w d D R h
  have H := Lib.hid h; clear h
  have HFA := Lib.hid hfa; clear hfa
  by_cases hl : D.left = 0
  · have hsp : D.syncDir = (D, 11) := by unfold DiskV.syncDir DiskV.begin; rw [if_pos hl]; rfl
    have hb1 : D.begin = (D, 11) := by unfold DiskV.begin; rw [if_pos hl]
    have HS := Lib.hid hsp; clear hsp
    have HFA2 := HFA.out
    rw [hb1] at HFA2
    have HFA := Lib.hid HFA2
    clear HFA2 hb1
    go_enter Tryz.func100, Tryz.ntmps100
    go_wp2_with fail
    refine HFA.out.mono ?_
    rintro e w1 ⟨rfl, h1, ho⟩
    have H1 := Lib.hid h1; clear h1
    have HO := Lib.hid ho; clear ho
    go_wp2
    go_ret
    rw [HS.out]
    exact ⟨rfl, ⟨R, H1.out, fun b hb => .inl (HF.out b hb)⟩, off_core H.out HF.out HO.out⟩
  · have hsp : D.syncDir = ({ D.begin.1 with base := D.begin.1.names, moves := [] }, 0) := by unfold DiskV.syncDir DiskV.begin; rw [if_neg hl]; rfl
    have HS := Lib.hid hsp; clear hsp
    have hb1 : D.begin.2 = 0 := by unfold DiskV.begin; rw [if_neg hl]
    have HFA2 := HFA.out
    rw [hb1] at HFA2
    have HFA := Lib.hid HFA2
    clear HFA2 hb1
    go_enter Tryz.func100, Tryz.ntmps100
    go_wp2_with fail
    refine HFA.out.mono ?_
    rintro e w1 ⟨rfl, h1, ho⟩
    have c2 : w1.cell? ⟨d, 2, none⟩ = some (.map (some R.nm)) := Heap.cell h1.core 2
    have hlt := Heap.lt h1.core
    have H1 := Lib.hid h1; clear h1
    have HO := Lib.hid ho; clear ho
    go_wp2_with fail
    refine (AnyW.maps_Clone_owns Tryz.cloneNames 9 (Go.plainElem Tryz.prog 3) R.nm D.begin.1.names.length D.begin.1.names.toD w1 H1.out.names).mono ?_
    rintro e w2 ⟨rfl, hm2, _, hb2⟩
    have hd2 : w2.heap[d]? = some (.cells (coreCells D.begin.1 R) 97 (0, 0)) := (hb2.block d hlt).trans H1.out.core
    have c3 : w2.cell? ⟨d, 3, none⟩ = some (.map (some R.bm)) := Heap.cell hd2 3
    have c4 : w2.cell? ⟨d, 4, none⟩ = some R.mv := Heap.cell hd2 4
    have f3 : w2.frozen? ⟨d, 3, none⟩ = false := Heap.frozen hd2 3
    have f4 : w2.frozen? ⟨d, 4, none⟩ = false := Heap.frozen hd2 4
    have hlt2 : d < w2.heap.size := Heap.lt hd2
    have HD2 := Lib.hid hd2; clear hd2
    have HM2 := Lib.hid hm2; clear hm2
    have HB2 := Lib.hid hb2; clear hb2
    go_wp2_with fail
    go_ret
    rw [HS.out]
    have hbel : Off (Only d) w1 w2 := (Off.of_below HB2.out : Off None w1 w2).mono (fun _ _ h => h.elim)
    have ho3 : Off (Only d) w1 ((w2.setCell ⟨d, 3, none⟩ (.map (some w1.heap.size))).setCell ⟨d, 4, none⟩ (.slice none 0 0)) := (hbel.set 3 _).set 4 _
    have hc3 := (Heap.set (Heap.set HD2.out 3 (.map (some w1.heap.size))) 4 (.slice none 0 0)).trans rfl
    have hm3 := (((Off.refl (Only d) w2).set 3 (.map (some w1.heap.size))).set 4 (.slice none 0 0)).map HM2.out (fun e => by have h1 : w1.heap.size = d := e; omega)
    have hsz : w1.heap.size < ((w2.setCell ⟨d, 3, none⟩ (.map (some w1.heap.size))).setCell ⟨d, 4, none⟩ (.slice none 0 0)).heap.size := by
      obtain ⟨es, clock, hb, _⟩ := hm3; exact Heap.lt hb
    have h3 := DiskAt.synced H1.out ho3 (Nat.le_refl _) hsz hm3 hc3
    have ho1 := off_core H.out HF.out HO.out
    refine ⟨rfl, ⟨_, h3, fun b hb => Grow.left ho1 b ?_⟩, off_trans ho1 (off_core H1.out HF.out ho3)⟩
    have hb' : (if b < w1.heap.size then R.role b else if b = w1.heap.size then 3 else 0) ≠ 0 := hb
    split at hb'
    · exact .inl (HF.out b hb')
    · split at hb'
      · rename_i h1 h2; exact .inr ⟨by omega, by rw [h2]; exact hsz⟩
      · exact absurd rfl hb'
end DiskW
end Go.Proofs.YtndgnlblbjpogaaGreatDoor
namespace Go.Proofs.YtndgnlblbjpogaaGreatDoor
open Go Go.RowKit
def newFile : FileV := ⟨ByteArray.empty, ByteArray.empty, []⟩
def DiskRep.addFile (R : DiskRep) (fv : Value) (b i n : Nat) : DiskRep :=
  { R with fv := fv, fbs := R.fbs ++ [b], cvs := R.cvs ++ [.slice none 0 0], role := fun k => if k < n then R.role k else if k = b then 6 + 2 * i else if fv.ownBlock = some k then 4 else 0 }
/-- A file that has nothing stands behind all others. -/
theorem DiskAt.addFile {w w' : World} {d b : Nat} {D : DiskV} {R : DiskRep} {fv : Value} (h : DiskAt w d D R) (ho : Off (fun k => k = d ∨ R.fv.ownBlock = some k) w w') (hb : w.heap.size ≤ b)
    (hbb : w'.heap[b]? = some (.cells #[.string ByteArray.empty, .string ByteArray.empty, .slice none 0 0] 154 (0, 0)))
    (hc : w'.heap[d]? = some (.cells (coreCells { D with files := D.files ++ [newFile] } (R.addFile fv b D.files.length w.heap.size)) 97 (0, 0)))
    (hr : w'.ownsRow 0 149 1 fv (D.files.length + 1) (R.fbs.map ptrTo ++ [ptrTo b])) (hfv : ∀ k, fv.ownBlock = some k → R.fv.ownBlock = some k ∨ w.heap.size ≤ k) (hne : fv.ownBlock ≠ some b) :
    DiskAt w' d { D with files := D.files ++ [newFile] } (R.addFile fv b D.files.length w.heap.size) := by
  have hro : ∀ k, R.role k ≠ 0 → (R.addFile fv b D.files.length w.heap.size).role k = R.role k := fun k hk => if_pos (h.old k hk)
  have hnew : (R.addFile fv b D.files.length w.heap.size).role b = 6 + 2 * D.files.length := by
    show (if b < _ then _ else if b = b then 6 + 2 * D.files.length else _) = _
    rw [if_neg (by omega), if_pos rfl]
  have far : ∀ k, R.role k ≠ 0 → R.role k ≠ 1 → R.role k ≠ 4 → ¬ (k = d ∨ R.fv.ownBlock = some k) := by
    intro k h0 h1 h2 hk
    rcases hk with rfl | hk
    · exact h1 h.rD
    · exact h2 (h.rF k hk)
  have hlen : (D.files ++ [newFile]).length = D.files.length + 1 := by simp
  have hl1 := h.len
  have hl2 := h.clen
  refine { wf := ⟨h.wf.room, h.wf.ops, h.wf.fail, h.wf.left, ?_, ?_, ?_⟩, core := hc, frow := ?_, each := ?_, clen := ?_, names := ?_, base := ?_, mrow := ?_, rD := ?_, rN := ?_, rB := ?_, rF := ?_, rM := ?_, old := ?_ }
  · intro p hp; show _ < (D.files ++ [newFile]).length; rw [hlen]; exact Nat.lt_succ_of_lt (h.wf.names p hp)
  · intro p hp; show _ < (D.files ++ [newFile]).length; rw [hlen]; exact Nat.lt_succ_of_lt (h.wf.base p hp)
  · intro m hm hz; show _ < (D.files ++ [newFile]).length; rw [hlen]; exact Nat.lt_succ_of_lt (h.wf.moves m hm hz)
  · show w'.ownsRow 0 _ 1 fv (D.files ++ [newFile]).length ((R.fbs ++ [b]).map ptrTo)
    rw [hlen, List.map_append]
    exact hr
  · intro i f hf
    have hf' : (D.files ++ [newFile])[i]? = some f := hf
    rw [List.getElem?_append] at hf'
    split at hf'
    · rename_i hlt
      obtain ⟨b1, cv1, g1, g2, g3, g4, g5⟩ := h.each i f hf'
      refine ⟨b1, cv1, ?_, ?_, g3.off ho (far b1 (by omega) (by omega) (by omega)) (fun k hk => far k (by rw [g5 k hk]; omega) (by rw [g5 k hk]; omega) (by rw [g5 k hk]; omega)), by rw [hro b1 (by omega), g4], fun k hk => by rw [hro k (by rw [g5 k hk]; omega), g5 k hk]⟩
      · show (R.fbs ++ [b])[i]? = _
        rw [List.getElem?_append_left (by omega), g1]
      · show (R.cvs ++ [_])[i]? = _
        rw [List.getElem?_append_left (by omega), g2]
    · rename_i hlt
      have hi : i = D.files.length := by
        rcases Nat.lt_or_ge (i - D.files.length) 1 with h1 | h1
        · omega
        · rw [List.getElem?_eq_none (by simpa using h1)] at hf'; cases hf'
      subst hi
      rw [Nat.sub_self] at hf'
      cases hf'
      refine ⟨b, .slice none 0 0, ?_, ?_, ⟨hbb, World.ownsRow_nil _ _ _ _⟩, hnew, fun k hk => by cases hk⟩
      · show (R.fbs ++ [b])[_]? = _
        rw [List.getElem?_append_right (by omega), hl1, Nat.sub_self]; rfl
      · show (R.cvs ++ [_])[_]? = _
        rw [List.getElem?_append_right (by omega), hl2, Nat.sub_self]; rfl
  · show (R.cvs ++ [_]).length = (D.files ++ [newFile]).length
    simp [hl2]
  · exact ho.map h.names (far R.nm (by rw [h.rN]; omega) (by rw [h.rN]; omega) (by rw [h.rN]; omega))
  · exact ho.map h.base (far R.bm (by rw [h.rB]; omega) (by rw [h.rB]; omega) (by rw [h.rB]; omega))
  · exact ho.row h.mrow (fun k hk => far k (by rw [h.rM k hk]; omega) (by rw [h.rM k hk]; omega) (by rw [h.rM k hk]; omega))
  · rw [hro d (by rw [h.rD]; omega), h.rD]
  · show (R.addFile fv b D.files.length w.heap.size).role R.nm = 2
    rw [hro _ (by rw [h.rN]; omega), h.rN]
  · show (R.addFile fv b D.files.length w.heap.size).role R.bm = 3
    rw [hro _ (by rw [h.rB]; omega), h.rB]
  · intro k hk
    have hk : fv.ownBlock = some k := hk
    show (if k < w.heap.size then R.role k else if k = b then 6 + 2 * D.files.length else if fv.ownBlock = some k then 4 else 0) = 4
    rcases hfv k hk with h' | h'
    · rw [if_pos (row_lt h.frow h'), h.rF k h']
    · rw [if_neg (by omega), if_neg (by intro e; exact hne (by rw [hk, e])), if_pos hk]
  · intro k hk
    show (R.addFile fv b D.files.length w.heap.size).role k = 5
    rw [hro k (by rw [h.rM k hk]; omega), h.rM k hk]
  · intro k hk
    have hs := ho.size
    by_cases hlt : k < w.heap.size
    · omega
    · have hk' : (if k < w.heap.size then R.role k else if k = b then 6 + 2 * D.files.length else if fv.ownBlock = some k then 4 else 0) ≠ 0 := hk
      rw [if_neg hlt] at hk'
      split at hk'
      · rename_i e; rw [e]; exact Heap.lt hbb
      · split at hk'
        · rename_i hk2; exact row_lt hr hk2
        · exact absurd rfl hk'
theorem DiskRep.addFile_in {R : DiskRep} {F : Nat → Prop} {fv : Value} {b i : Nat} {w w' : World} (hF : ∀ b, R.role b ≠ 0 → F b) (hb : b < w'.heap.size) (hfv : ∀ k, fv.ownBlock = some k → k < w'.heap.size) :
    ∀ k, (R.addFile fv b i w.heap.size).role k ≠ 0 → Grow F w w' k := by
  intro k hk
  have hk' : (if k < w.heap.size then R.role k else if k = b then 6 + 2 * i else if fv.ownBlock = some k then 4 else 0) ≠ 0 := hk
  split at hk'
  · exact .inl (hF k hk')
  · rename_i h1
    refine .inr ⟨by omega, ?_⟩
    split at hk'
    · rename_i e; rw [e]; exact hb
    · split at hk'
      · rename_i h2; exact hfv k h2
      · exact absurd rfl hk'
theorem infoPtr : (Tryz.prog.info? 149).map (fun i => (i.zero, i.size, i.bytes)) = some (some (.pointer none), 1, 8) := by kernel_rfl
namespace DiskW
theorem find_len (D : DiskV) (name : ByteArray) : (D.find name).1.names = D.names ∧ (D.find name).1.files = D.files ∧ (D.find name).1.moves = D.moves := by
  unfold DiskV.find
  split
  · exact ⟨rfl, rfl, rfl⟩
  · split <;> exact begin_len D
set_option maxRecDepth 100000 in
theorem create_any (w : World) (d : Nat) (D : DiskV) (F : Nat → Prop) (h : DiskIn w d D F) (name : ByteArray) (hn : name.size ≤ maxLen) (hm : D.names.length < maxLen) (hb : D.moves.length ≤ 1099511627776) (hfl : D.files.length ≤ 1099511627776) :
    Calls Tryz.prog 120 #[.pointer (some ⟨d, 0, none⟩), .string name] w fun e w' =>
      e = .returned (.int .i64 (D.create name).2) ∧ DiskIn w' d (D.create name).1 (Grow F w w') ∧ Off F w w' := by
  obtain ⟨R, h, hF⟩ := h
  have HF := Lib.hid hF; clear hF
  have hfa := find_any w d D R h name hn
  have H := Lib.hid h; clear h
  have hln := find_len D name
  obtain ⟨D1, oi, er, hfd⟩ : ∃ D1 oi er, D.find name = (D1, oi, er) := ⟨_, _, _, rfl⟩
  rw [hfd] at hfa hln
  dsimp only at hln
  have HLN := Lib.hid hln
  have HFA := Lib.hid hfa
  have HFD := Lib.hid hfd
  clear hfa hfd hln
  by_cases h1 : er = 11
  · subst h1
    have hsp : D.create name = (D1, 11) := by unfold DiskV.create; rw [HFD.out]; simp only [if_true]
    have HS := Lib.hid hsp; clear hsp
    go_enter Tryz.func120, Tryz.ntmps120
    go_wp2_with fail
    refine HFA.out.mono ?_
    rintro e w1 ⟨rfl, h1, ho⟩
    have H1 := Lib.hid h1; clear h1
    have HO := Lib.hid ho; clear ho
    go_wp2
    go_ret
    rw [HS.out]
    exact ⟨rfl, ⟨R, H1.out, fun b hb => .inl (HF.out b hb)⟩, off_core H.out HF.out HO.out⟩
  · cases hnm : DiskV.named name with
    | false =>
      have hsp : D.create name = (D1, 3) := by unfold DiskV.create; rw [HFD.out]; simp only [if_neg h1, hnm, if_true]
      have HS := Lib.hid hsp; clear hsp
      go_enter Tryz.func120, Tryz.ntmps120
      go_wp2_with fail
      refine HFA.out.mono ?_
      rintro e w1 ⟨rfl, h1, ho⟩
      have H1 := Lib.hid h1; clear h1
      have HO := Lib.hid ho; clear ho
      go_wp2_with fail
      refine (named_any _ name hn).mono ?_
      rintro e w2 ⟨rfl, rfl⟩
      rw [hnm]
      go_wp2
      go_ret
      rw [HS.out]
      exact ⟨rfl, ⟨R, H1.out, fun b hb => .inl (HF.out b hb)⟩, off_core H.out HF.out HO.out⟩
    | true =>
      by_cases h2 : er = 0
      · have hsp : D.create name = (D1, 4) := by unfold DiskV.create; rw [HFD.out]; simp only [if_neg h1, hnm, Bool.true_eq_false, if_false, if_pos h2]
        have HS := Lib.hid hsp; clear hsp
        go_enter Tryz.func120, Tryz.ntmps120
        go_wp2_with fail
        refine HFA.out.mono ?_
        rintro e w1 ⟨rfl, h1, ho⟩
        have H1 := Lib.hid h1; clear h1
        have HO := Lib.hid ho; clear ho
        go_wp2_with fail
        refine (named_any _ name hn).mono ?_
        rintro e w2 ⟨rfl, rfl⟩
        rw [hnm]
        go_wp2
        go_ret
        rw [HS.out]
        exact ⟨rfl, ⟨R, H1.out, fun b hb => .inl (HF.out b hb)⟩, off_core H.out HF.out HO.out⟩
      · have hsp : D.create name = (({ D1 with files := D1.files ++ [newFile] } : DiskV).moved ⟨ByteArray.empty, name, D1.files.length⟩, 0) := by unfold DiskV.create; rw [HFD.out]; simp only [if_neg h1, hnm, Bool.true_eq_false, if_false, if_neg h2]; rfl
        have HS := Lib.hid hsp; clear hsp
        go_enter Tryz.func120, Tryz.ntmps120
        go_wp2_with fail
        refine HFA.out.mono ?_
        rintro e w1 ⟨rfl, h1, ho⟩
        have c1 : w1.cell? ⟨d, 1, none⟩ = some R.fv := Heap.cell h1.core 1
        have f1 : w1.frozen? ⟨d, 1, none⟩ = false := Heap.frozen h1.core 1
        have hlt := Heap.lt h1.core
        have H1 := Lib.hid h1; clear h1
        have HO := Lib.hid ho; clear ho
        go_wp2_with fail
        refine (named_any _ name hn).mono ?_
        rintro e w2 ⟨rfl, rfl⟩
        rw [hnm]
        obtain ⟨i0, hi, hz0, hz1, hz2⟩ := info_parts infoPtr
        have hsa : (w2.alloc (.cells #[.string ⟨#[]⟩, .string ⟨#[]⟩, .slice none 0 0] 154)).heap.size = w2.heap.size + 1 := Heap.alloc_size _ _
        have hrow4 : ∀ o o' : Obj, ((w2.alloc o).alloc o').ownsRow 0 149 1 R.fv D1.files.length (R.fbs.map ptrTo) := fun o o' =>
          (((Off.refl None w2).alloc o).alloc o').row H1.out.frow (fun k hk e => e)
        have HR4 := Lib.hid hrow4; clear hrow4
        have hl1 : D1.files.length ≤ 1099511627776 := by rw [HLN.out.2.1]; exact hfl
        go_wp2_with (at_builtin; refine wpList_append_lies _ rfl _ _ 94 rfl 0 149 i0 _ 1 8 Tryz.underlying94 hi hz0 hz1 hz2 rfl (by decide) R.fv D1.files.length (R.fbs.map ptrTo) rfl (HR4.out _ _) ⟨w2.heap.size + 1, 0, none⟩ 1 1 [ptrTo w2.heap.size] rfl rfl ?c1 ?c2 (by decide) ?c3 ?c4 (Nat.zero_le _) (w2.heap.size + 1 + 1) ?c5 ?_)
        case c1 => exact Heap.news _ #[.pointer (some ⟨w2.heap.size, 0, none⟩)] _ _ hsa.symm
        case c2 => intro u hu; simp at hu; rcases hu with rfl; rfl
        case c3 => unfold maxLen; omega
        case c4 => omega
        case c5 => rw [Heap.alloc_size, hsa]
        intro g cap w5 hrow5 hg5 hgb hgl
        have hge : R.fv.ownBlock = some g ∨ w2.heap.size ≤ g := hgb.imp id (fun h => by omega)
        have hnd : R.fv.ownBlock ≠ some d := fun e => by have h3 := H1.out.rF d e; have h4 := H1.out.rD; omega
        have hnf : R.fv.ownBlock ≠ some w2.heap.size := fun e => by have h3 := row_lt H1.out.frow e; omega
        have hd5 : w5.heap[d]? = some (.cells (coreCells D1 R) 97 (0, 0)) := Heap.grown hg5 (Heap.alloc_old (Heap.alloc_old H1.out.core _) _) hnd
        have hf5 : w5.heap[w2.heap.size]? = some (.cells #[.string ⟨#[]⟩, .string ⟨#[]⟩, .slice none 0 0] 154 (0, 0)) := Heap.grown hg5 (Heap.alloc_old (Heap.alloc_new w2 _) _) hnf
        have hgd : g ≠ d := by
          rcases hge with h' | h'
          · intro e; exact hnd (by rw [h', e])
          · omega
        have hgf : g ≠ w2.heap.size := by
          rcases hgb with h' | h'
          · intro e; exact hnf (by rw [h', e])
          · omega
        have c5 : w5.cell? ⟨d, 1, none⟩ = some R.fv := Heap.cell hd5 1
        have f5 : w5.frozen? ⟨d, 1, none⟩ = false := Heap.frozen hd5 1
        have ho5 : Off (fun k => k = d ∨ R.fv.ownBlock = some k) w2 w5 := (((Off.refl _ w2).alloc _).alloc _).grown hg5 (fun k hk => .inl (.inr hk))
        obtain ⟨v', hv⟩ : ∃ v', v' = Value.slice (some ⟨g, 0, none⟩) (D1.files.length + 1) cap := ⟨_, rfl⟩
        have hog : v'.ownBlock = some g := by rw [hv]; rfl
        have ho6 := ho5.setCell (p := ⟨d, 1, none⟩) (.inl (.inl rfl)) v'
        have hr6 := ((Off.refl (Only d) w5).set 1 v').row hrow5 (fun k hk e => by cases hk; exact hgd e)
        have hf6 := ((Off.refl (Only d) w5).set 1 v').at_ hf5 (fun e => by have h1 : w2.heap.size = d := e; omega)
        rw [← hv] at hr6
        have h6 := H1.out.addFile ho6 (Nat.le_refl _) hf6 ((Heap.set hd5 1 v').trans rfl) hr6 (by rw [hog]; intro k hk; cases hk; exact hge) (by rw [hog]; intro e; cases e; exact hgf rfl)
        have hin6 := DiskRep.addFile_in (i := D1.files.length) (fv := v') (w := w2) HF.out (Heap.lt hf6) (by rw [hog]; intro k hk; cases hk; exact row_lt hr6 hog)
        have hoF : Off F w2 _ := ho6.mono (fun b _ e => e.elim (fun e => by rw [e]; exact HF.out _ (by rw [H1.out.rD]; omega)) (fun e => HF.out _ (by rw [H1.out.rF b e]; omega)))
        have hlt6 : d < (w5.setCell ⟨d, 1, none⟩ v').heap.size := Heap.lt h6.core
        have c6 : (w5.setCell ⟨d, 1, none⟩ v').cell? ⟨d, 1, none⟩ = some v' := Heap.cell h6.core 1
        rw [hv] at c6 hlt6
        have H6 := Lib.hid h6; have HI6 := Lib.hid hin6; have HOF := Lib.hid hoF
        clear h6 hin6 hoF hr6 hf6 ho6 ho5 hf5 hg5 hrow5 hd5 hge hgb c1 f1
        have HV := Lib.hid hv; clear hv
        go_wp2_with fail
        rw [← HV.out]
        have hm1 : D1.names.length < maxLen := by rw [HLN.out.1]; exact hm
        have hb1 : D1.moves.length ≤ 1099511627776 := by rw [HLN.out.2.2]; exact hb
        refine (moved_any _ d _ _ ⟨_, H6.out, HI6.out⟩ ⟨ByteArray.empty, name, D1.files.length⟩ (Nat.zero_le _) hn hm1 (by show D1.files.length ≤ _; omega) (fun _ => by show D1.files.length < (D1.files ++ [newFile]).length; simp) hb1).mono ?_
        rintro e w7 ⟨rfl, h7, ho7⟩
        have H7 := Lib.hid h7; have HO7 := Lib.hid ho7
        clear h7 ho7
        go_wp2
        go_ret
        rw [HS.out]
        have ho1 := off_trans (off_core H.out HF.out HO.out) HOF.out
        refine ⟨rfl, H7.out.mono (fun b _ hb => ?_), ?_⟩
        · rcases hb with hb | hb
          · exact Grow.left (off_core H.out HF.out HO.out) b (hb.imp id (fun x => ⟨x.1, Nat.lt_of_lt_of_le x.2 HO7.out.size⟩))
          · exact .inr ⟨Nat.le_trans ho1.size hb.1, hb.2⟩
        · exact (off_core H.out HF.out HO.out).trans (HOF.out.trans_grow HO7.out) (fun _ _ h => h)
end DiskW
end Go.Proofs.YtndgnlblbjpogaaGreatDoor
namespace Go.Proofs.YtndgnlblbjpogaaGreatDoor
open Go Go.RowKit Go.Maps Go.Sort Go.Shelf
def DiskV.list (D : DiskV) : List Bytes := (D.names.map (·.1)).mergeSort leB
theorem strKeys_toD (m : NMap) : strKeys m.toD = m.map (·.1) := by
  show (m.map _).map _ = _
  rw [List.map_map]
  rfl
namespace DiskW
set_option maxRecDepth 100000 in
theorem list_any (w : World) (d : Nat) (D : DiskV) (F : Nat → Prop) (h : DiskIn w d D F) (hm : D.names.length ≤ 1099511627776) :
    Calls Tryz.prog 22 #[.pointer (some ⟨d, 0, none⟩)] w fun e w' =>
      ∃ v, e = .returned v ∧ w'.ownsRow w.heap.size 9 1 v D.list.length (D.list.map encStr) ∧ Below w.heap.size w w' := by
  obtain ⟨R, h, hF⟩ := h
  clear hF
  have c2 : w.cell? ⟨d, 2, none⟩ = some (.map (some R.nm)) := Heap.cell h.core 2
  have hlt := Heap.lt h.core
  have hsz : Maps.size D.names.toD ≤ 1099511627776 := by rw [NMap.size_toD]; exact hm
  have cS := Tryz.slices_Sorted_keys_50_51 R.nm D.names.length D.names.toD (Go.plainElem Tryz.prog 3) w h.names (by unfold maxLen; omega) (by omega)
  have HS := Lib.hid cS
  clear cS h hsz
  refine (callsIn_wide (n := 6)).1 ?_
  have hfK : Fence.wide.fn 51 := trivial
  have hfS : Fence.wide.fn 50 := trivial
  refine callsIn_of_wp Tryz.func22 rfl trivial ?_ rfl
  simp only [Tryz.ntmps22, List.size_toArray, List.length_cons, List.length_nil, Nat.reduceAdd, Nat.reduceSub, Array.replicate_succ, Array.replicate_zero, List.push_toArray, List.append_toArray, List.nil_append, List.cons_append]
  gi_wp2_with (first
    | (gi_at_call 51; refine (Tryz.maps_Keys_51 _ _).mono ?_; rintro e w' ⟨rfl, rfl⟩)
    | (gi_at_call 50; refine HS.out.mono ?_; rintro e w' ⟨v, ss, rfl, hS, hrow, hnil, hb⟩))
  go_ret
  refine ⟨v, rfl, ?_, ((Below.refl _ w).alloc (Nat.le_refl _) _).trans (hb.mono (by simp))⟩
  rw [strKeys_toD] at hS
  have e1 : ss.mergeSort (fun x y => decide (x ≤ y)) = D.list := mergeSort_of_perm hS
  have e2 : ss.length = D.list.length := by rw [← e1, List.length_mergeSort]
  rw [e1, e2] at hrow
  exact ownsRow_base_a hrow (by simp)
end DiskW
end Go.Proofs.YtndgnlblbjpogaaGreatDoor
