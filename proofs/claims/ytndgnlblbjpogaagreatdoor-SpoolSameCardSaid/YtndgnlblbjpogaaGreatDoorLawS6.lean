/- The spool's laws: a spool on a new disk; begun; the chapter's example. · The spool's laws: the chapter's example. -/
import Derived.Test.YtndgnlblbjpogaaGreatDoorLawS4
import Derived.Test.YtndgnlblbjpogaaGreatDoorSpoolE
import Derived.Test.YtndgnlblbjpogaaGreatDoorSLaws3
namespace Go.Proofs.YtndgnlblbjpogaaGreatDoor
open Go Go.RowKit Go.Shelf Led
theorem fresh_new {R M : Nat} (hM : 1 ≤ M) (hR : R ≤ 9223372036854775807) (budget segm : Int) :
    ∃ D1 D2, (DiskV.new R).clean = (D1, 0) ∧ keptV D1 LedgerV.new = (LedgerV.new, 0) ∧ D1.opened = (D2, 0, [] ++ [⟨1, 0, 0⟩]) ∧ Marked D1 LedgerV.new ∧ (DiskV.new R).list = [] ∧ D1.list = [] ∧ D1.firsts = [] ∧ Lim 2 D2 ∧
      SGood R M ⟨budget, segm, ⟨[], ⟨1, 0, 0⟩, ⟨1, 0, 0⟩⟩, LedgerV.new, D2⟩ [] ⟨1, []⟩ none := by
  have h0 := Files.new R hR
  obtain ⟨D1, e1, h1⟩ := h0.syncDir
  have hl : (DiskV.new R).list = [] := by
    have := h0.list_perm
    have : (DiskV.new R).names.map (·.1) = [] := List.Perm.eq_nil this
    unfold DiskV.list
    rw [this]
    exact List.mergeSort_nil
  have hcl : (DiskV.new R).clean = (D1, 0) := by
    unfold DiskV.clean
    rw [hl]
    exact e1
  have hl1 : D1.list = [] := by
    have := h1.list_perm
    have : D1.names.map (·.1) = [] := List.Perm.eq_nil this
    unfold DiskV.list
    rw [this]
    exact List.mergeSort_nil
  have hfs : D1.firsts = [] := by unfold DiskV.firsts; rw [hl1]; rfl
  have hrd : D1.read ckB = (ByteArray.empty, 5) := h1.read_none (fun p hp => by cases hp)
  obtain ⟨D2, e2, h2⟩ := h1.create (u := Seg.nameB 1) (Seg.nameB_named (by omega)) (fun p hp => by cases hp)
  obtain ⟨D3, e3, h3⟩ := h2.syncDir
  have hst : D1.started 1 = (D3, 0, true) := by
    unfold DiskV.started
    rw [e2]
    dsimp only
    rw [if_pos rfl, e3]
  have hop : D1.opened = (D3, 0, [] ++ [⟨1, 0, 0⟩]) := by
    unfold DiskV.opened
    rw [hfs, if_pos rfl, hst]
    rfl
  have hlim : Lim 2 D3 := by
    have k1 := lim_clean (lim_new R) (by omega)
    rw [hcl] at k1
    have k2 := lim_started k1 1 (by omega)
    rw [hst] at k2
    exact k2
  refine ⟨D1, D3, hcl, by unfold keptV; rw [hrd]; rfl, hop, (fun hz => by rw [hrd] at hz; cases hz), hl, hl1, hfs, hlim, ⟨⟨h3, rfl, rfl, ⟨rfl, rfl⟩, ?_, by show 1 + 0 ≤ _; omega⟩, LedgerV.Right.new, rfl, hM, (fun t ht => by cases ht), 0, Nat.le_refl _, rfl⟩⟩
  intro g hg b hbm
  rw [List.mem_singleton.1 hg] at hbm
  cases hbm
set_option maxRecDepth 100000 in
/-- A spool on a new disk. -/
theorem spool_new (R M : Nat) (hM : 1 ≤ M) (hR : R ≤ 9223372036854775807) (budget segm : Int) (hck : checkV budget segm = 0) :
    ∃ P : SpoolV, SGood R M P [] ⟨1, []⟩ none ∧ P.budget = budget ∧ P.segm = segm ∧ P.led = LedgerV.new ∧ P.log.bytes = 0 ∧
      ∀ (w : World) (d n : Nat) (F : Nat → Prop), DiskIn w d (DiskV.new R) F → (∀ b, F b → n ≤ b) → n ≤ w.heap.size → Glob n w →
        Calls Tryz.prog 31 #[.pointer (some ⟨d, 0, none⟩), .agg #[.int .i64 budget, .int .i64 segm]] w fun e w' => ∃ sp, e = .returned (.tuple #[.pointer (some ⟨sp, 0, none⟩), .int .i64 0]) ∧ SHeld 1 14 n (fun _ => False) w' sp d P ∧ Off F w w' := by
  obtain ⟨D1, D2, e2, e3, e4, hm, hl, hl1, hf1, hlim, hg⟩ := fresh_new (R := R) hM hR budget segm
  refine ⟨_, hg, rfl, rfl, rfl, rfl, fun w d n F h hF hn hG => ?_⟩
  have hwk : (⟨budget, segm, ⟨[], ⟨1, 0, 0⟩, ⟨1, 0, 0⟩⟩, LedgerV.new, D2⟩ : SpoolV).Wk 1 14 := by
    refine ⟨by omega, by omega, LedgerV.Right.new, Nat.le_refl _, ⟨fun s hs => ?_, Nat.le_refl _, Nat.le_refl _⟩, 2, hlim, Nat.le_refl _⟩
    have hs : s ∈ ([⟨1, 0, 0⟩] : List SegV) := hs
    rw [List.mem_singleton.1 hs]
    exact ⟨Nat.le_refl _, Nat.le_refl _⟩
  refine (Spool.open_any w d n 0 1 14 budget segm _ D1 D2 F LedgerV.new LedgerV.new [] ⟨1, 0, 0⟩ h hF hn hG (lim_new R) (by omega) (by rw [hl]; exact fun s hs => by cases hs) hm hck e2 e3 e4 (by rw [hl1]; exact fun s hs => by cases hs) (by rw [hf1]; exact fun s hs => by cases hs) hwk rfl LedgerV.Right.new (by decide)).mono ?_
  rintro e w' ⟨sp, rfl, hsp, hat, ho⟩
  refine ⟨sp, rfl, ⟨⟨fun b => Grow F w w' b ∧ b < w'.heap.size, hat.mono (fun b hb x => ⟨x, hb⟩), fun b hb => ⟨hb.1.elim (hF b) (fun x => Nat.le_trans hn x.1), fun x => x, hb.2⟩⟩, fun _ x => x.elim, Nat.le_trans hn ho.size, hG.off ho hF, hwk⟩, ho⟩
namespace LawS
set_option maxHeartbeats 1000000 in
set_option maxRecDepth 100000 in
theorem begun_any (M : Nat) (hM : 1 ≤ M) (b s : Int) (hb : I64 b) (hs : I64 s) :
    ∃ P : SpoolV, SGood 1000000 M P [] ⟨1, []⟩ none ∧ P.budget = 2016 + (pickN b 3000 : Int) ∧ P.segm = 1 + (pickN s 2000 : Int) ∧ P.led = LedgerV.new ∧ P.log.bytes = 0 ∧
      ∀ (w : World) (n : Nat), n ≤ w.heap.size → Glob n w →
        Calls Tryz.prog 10 #[.int .i64 b, .int .i64 s] w fun e w' => ∃ d sp, e = .returned (.tuple #[.pointer (some ⟨d, 0, none⟩), .pointer (some ⟨sp, 0, none⟩)]) ∧ SHeld 1 14 n (fun _ => False) w' sp d P ∧ Off None w w' := by
  have h1 := pickN_lt b (n := 3000) (by omega)
  have h2 := pickN_lt s (n := 2000) (by omega)
  have hP1 := fun W => pick_any b 3000 hb (by omega) (by omega) W
  have hP2 := fun W => pick_any s 2000 hs (by omega) (by omega) W
  generalize pickN b 3000 = x at h1 hP1 ⊢
  generalize pickN s 2000 = y at h2 hP2 ⊢
  have hck : checkV (2016 + (x : Int)) (1 + (y : Int)) = 0 := by
    unfold checkV
    rw [if_neg (by omega), if_neg (by omega), if_neg (by omega)]
  obtain ⟨P, hg, e1, e2, e3, e4, hop⟩ := spool_new 1000000 M hM (by omega) (2016 + (x : Int)) (1 + (y : Int)) hck
  refine ⟨P, hg, e1, e2, e3, e4, fun w n hn hG => ?_⟩
  have HP1 := Lib.hid hP1
  have HP2 := Lib.hid hP2
  have HOP := Lib.hid hop
  have HH := Lib.hid (And.intro hn hG)
  clear hP1 hP2 hg e1 e2 e3 e4 hop hn hG hck
  go_enter Tryz.func10, Tryz.ntmps10
  go_wp2_with fail
  refine (DiskW.new_any w 1000000 (by omega)).mono ?_
  rintro e w1 ⟨d, rfl, hd, ho1⟩
  have HD := Lib.hid (And.intro hd ho1)
  clear hd ho1
  go_wp2_with (first | (go_at_call_of 11 (Value.int .i64 s); refine (HP2.out _).mono ?_; rintro e w' ⟨rfl, rfl⟩) | (go_at_call 11; refine (HP1.out _).mono ?_; rintro e w' ⟨rfl, rfl⟩))
  refine (HOP.out w1 d n _ HD.out.1 (fun b hb => Nat.le_trans HH.out.1 hb.1) (Nat.le_trans HH.out.1 HD.out.2.size) (HH.out.2.none HD.out.2)).mono ?_
  rintro e w2 ⟨sp, rfl, hsh, ho2⟩
  have H2 := Lib.hid (And.intro hsh (HD.out.2.trans ho2 (fun b hb x => by have := x.1; omega)))
  clear hsh ho2
  go_wp2_with fail
  go_ret2
  exact ⟨d, sp, rfl, H2.out.1, H2.out.2⟩
end LawS
end Go.Proofs.YtndgnlblbjpogaaGreatDoor
namespace Go.Proofs.YtndgnlblbjpogaaGreatDoor
open Go Go.RowKit Go.Shelf Led
theorem ret_bool {a b : Bool} (h : a = b) : Ending.returned (.bool a) = Ending.returned (.bool b) := by rw [h]
namespace LawS
set_option maxHeartbeats 1000000 in
set_option maxRecDepth 100000 in
theorem shown_any (w : World) (n : Nat) (hn : n ≤ w.heap.size) (hG : Glob n w) : Calls Tryz.prog 9 #[] w fun e w' => e = .returned (.bool true) ∧ Off None w w' := by
  obtain ⟨P, hg, _, _, e3, _, hop⟩ := spool_new 9000 2 (by omega) (by omega) 3000 100 (by decide)
  obtain ⟨x1, x2, x3, x4⟩ := shown_good hg e3
  have HOP := Lib.hid hop
  have hG' : Glob w.heap.size w := ⟨hG.crc, hG.pow, by have := hG.le; omega⟩
  have HH := Lib.hid hG'
  have HX := Lib.hid (And.intro x1 (And.intro x2 (And.intro x3 x4)))
  clear hop hn hG hG' hg e3 x1 x2 x3 x4
  go_enter Tryz.func9, Tryz.ntmps9
  go_wp2_with fail
  refine (DiskW.new_any w 9000 (by omega)).mono ?_
  rintro e w1 ⟨d, rfl, hd, ho1⟩
  have HD := Lib.hid (And.intro hd ho1)
  clear hd ho1
  go_wp2_with fail
  refine (HOP.out w1 d w.heap.size _ HD.out.1 (fun b hb => hb.1) HD.out.2.size (HH.out.none HD.out.2)).mono ?_
  rintro e w2 ⟨sp, rfl, hsh, ho2⟩
  have HJ := Lib.hid (hsh.join (by omega) nmA (show 1 ≤ maxLen by unfold maxLen; omega))
  have hw : Off (fun b => w.heap.size ≤ b) w w2 := (HD.out.2.mono (fun _ _ x => x.elim) : Off (fun b => w.heap.size ≤ b) w w1).trans ho2 (fun b hb x => x.1)
  have HO2 := Lib.hid hw
  clear hsh ho2 hw
  go_wp2_with fail
  refine HJ.out.mono ?_
  rintro e w3 ⟨rfl, hs3, ho3⟩
  have hw3 : Off (fun b => w.heap.size ≤ b) w w3 := HO2.out.trans ho3 (fun b _ x => x.1)
  have HO3 := Lib.hid hw3
  have HA := Lib.hid (hs3.add (by omega) (by omega) bodyX (show 1 ≤ 140737488355328 by omega) true)
  clear hs3 ho3 hw3 HJ
  rw [HX.out.1]
  go_wp2_with fail
  refine HA.out.mono ?_
  rintro e w4 ⟨rfl, hs4, ho4⟩
  have HO4 := Lib.hid (HO3.out.trans ho4 (fun b _ x => x.1))
  have HK := Lib.hid (hs4.ack nmA 1)
  clear hs4 ho4 HA
  have h1 := congrArg Prod.fst HX.out.2.1
  have h2 := congrArg Prod.snd HX.out.2.1
  dsimp only at h1 h2
  rw [h1, h2]
  clear h1 h2
  go_wp2_with fail
  refine HK.out.mono ?_
  rintro e w5 ⟨rfl, hs5, ho5⟩
  rw [HX.out.2.2.1]
  have HO5 := Lib.hid (HO4.out.trans ho5 (fun b _ x => x.1))
  have HL := Lib.hid hs5.ledger
  have hris := fun d hd => (hs5.wk.right.each d hd).2.rising
  have HR := Lib.hid hris
  clear hs5 ho5 HK hris
  go_wp2_with fail
  refine HL.out.mono ?_
  rintro e w6 ⟨lv, rfl, hl6, ho6⟩
  have HP := Lib.hid (pending_any w6 _ lv _ hl6 HR.out nmA)
  have HO6 := Lib.hid (HO5.out.quiet_trans ho6)
  clear hl6 ho6 HL
  go_wp2_with fail
  refine HP.out.mono ?_
  rintro e w7 ⟨v, rfl, hown, ho7⟩
  have HO7 := Lib.hid (HO6.out.quiet_trans ho7)
  obtain ⟨A, c, rfl⟩ := own_form hown
  rw [HX.out.2.2.2]
  clear hown ho7 HP
  go_wp2_with fail
  go_ret
  refine ⟨rfl, HO7.out.mono (fun b hb x => by have h1 : w.heap.size ≤ b := x; omega)⟩
end LawS
end Go.Proofs.YtndgnlblbjpogaaGreatDoor
namespace Go.Proofs.YtndgnlblbjpogaaGreatDoor
open Go Go.RowKit Go.Shelf Led
theorem led_field0 (w : World) (a b c : Value) : (Instr.field 34 (.agg #[a, b, c]) 0).run Tryz.prog w = .ok a w := by
  simp [Instr.field, go_sem, asAgg]
theorem led_field1 (w : World) (a b c : Value) : (Instr.field 34 (.agg #[a, b, c]) 1).run Tryz.prog w = .ok b w := by
  simp [Instr.field, go_sem, asAgg]
/-- Acts that came in. -/
def ActsAt (W : World) (A : Option Addr) (l : Nat) (T : Nat → ActV) : Prop := ∀ i, i < l → ∃ a, A = some a ∧ W.cell? (a.add (i * 4)) = some (.int .i64 (T i).op) ∧ W.cell? ⟨(a.add (i * 4)).block, (a.add (i * 4)).off + 1, none⟩ = some (.int .i64 (T i).name) ∧
  W.cell? ⟨(a.add (i * 4)).block, (a.add (i * 4)).off + 2, none⟩ = some (.int .i64 (T i).n) ∧ W.cell? ⟨(a.add (i * 4)).block, (a.add (i * 4)).off + 3, none⟩ = some (.int .i64 (T i).long)
theorem off_belowS {w w' : World} (h : Off (fun b => w.heap.size ≤ b) w w') : Below w.heap.size w w' := ⟨h.os, h.tape, h.output, h.size, fun b hb => h.block b hb (by omega)⟩
/-- A spool that a law holds, on a disk that never fails, behind some acts. -/
structure Play (n k : Nat) (A : Nat → Prop) (w : World) (sp d : Nat) (P : SpoolV) (full : List Grp) (act : Grp) (ck : Option (List UInt8)) : Prop where
  held : SHeld (1 + k) (14 + 40 * k) n A w sp d P
  good : SGood 1000000 100 P full act ck
  end_ : act.end_ ≤ 1 + k
namespace Play
variable {n k : Nat} {A : Nat → Prop} {w w' : World} {sp d : Nat} {P : SpoolV} {full : List Grp} {act : Grp} {ck : Option (List UInt8)}
theorem quiet (h : Play n k A w sp d P full act ck) (ho : Off None w w') : Play n k A w' sp d P full act ck := ⟨h.held.quiet ho, h.good, h.end_⟩
theorem run (h : Play n k A w sp d P full act ck) (hk : k ≤ 80) (a : ActV) (ha : a.Ok) :
    Calls Tryz.prog 14 #[.pointer (some ⟨sp, 0, none⟩), actAgg a] w fun e w' => e = .returned (.tuple #[.int .u64 (runV P a).2.1, .int .i64 (runV P a).2.2]) ∧ (∃ full' act' ck', Play n (k + 1) A w' sp d (runV P a).1 full' act' ck') ∧ Off (Spare n A) w w' := by
  obtain ⟨f', a', c', hg, _, _, he, _⟩ := h.good.run bears_begun a (by have := h.end_; omega)
  refine (LawS.run_any _ _ n A w sp d P h.held (by omega) (by omega) a ha).mono ?_
  rintro e w' ⟨rfl, hs, ho⟩
  exact ⟨rfl, ⟨f', a', c', hs.up (by omega) (by omega) (by omega) (by omega), hg, by have := h.end_; omega⟩, ho⟩
theorem add (h : Play n k A w sp d P full act ck) (hk : k ≤ 80) (body : ByteArray) (hs : body.size ≤ 2000) (s : Bool) :
    Calls Tryz.prog 24 #[.pointer (some ⟨sp, 0, none⟩), .string body, .bool s] w fun e w' => e = .returned (.tuple #[.int .u64 act.end_, .int .i64 0]) ∧
      ∃ P' full' act' ck', Play n (k + 1) A w' sp d P' full' act' ck' ∧ SGood.Added P full act body s P' full' act' ∧ Off (Spare n A) w w' := by
  obtain ⟨P', full', act', ck', e0, hg, hv⟩ := h.good.add bears_begun body hs (by have := h.end_; omega) s
  have hc := h.held.add (by omega) (by omega) body (by omega) s
  rw [e0] at hc
  refine hc.mono ?_
  rintro e w' ⟨rfl, hsh, ho⟩
  exact ⟨rfl, P', full', act', ck', ⟨hsh.up (by omega) (by omega) (by omega) (by omega), hg, by have := h.end_; have := hv.end_; omega⟩, hv, ho⟩
theorem sync (h : Play n k A w sp d P full act ck) :
    Calls Tryz.prog 18 #[.pointer (some ⟨sp, 0, none⟩)] w fun e w' => e = .returned (.int .i64 0) ∧ ∃ P', Play n k A w' sp d P' full act ck ∧ P'.log.durable.end_ = act.end_ ∧ P'.led = P.led ∧ Off (Spare n A) w w' := by
  obtain ⟨hg, _, e0, hd, hl⟩ := h.good.calm_sync
  have hc := h.held.sync
  rw [e0] at hc
  refine hc.mono ?_
  rintro e w' ⟨rfl, hsh, ho⟩
  exact ⟨rfl, _, ⟨hsh, hg, h.end_⟩, hd, hl, ho⟩
end Play
end Go.Proofs.YtndgnlblbjpogaaGreatDoor
