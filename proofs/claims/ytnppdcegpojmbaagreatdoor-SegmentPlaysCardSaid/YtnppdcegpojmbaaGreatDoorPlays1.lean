/- Both logs in memory, and what each act leaves of them: the acts' contracts. -/
import Derived.Test.YtnppdcegpojmbaaGreatDoorDeckP
import Derived.Test.YtnppdcegpojmbaaGreatDoorRollO
import Derived.Test.YtnppdcegpojmbaaGreatDoorRefP1
import Derived.Test.YtnppdcegpojmbaaGreatDoorRefP2
import Derived.Test.YtnppdcegpojmbaaGreatDoorRefP3
import Derived.Test.YtnppdcegpojmbaaGreatDoorAlike
import Derived.Test.YtnppdcegpojmbaaGreatDoorOpened
namespace Go.Proofs.YtnppdcegpojmbaaGreatDoor
open Go Go.RowKit Go.Sort
theorem set_last {α : Type} (pre : List α) (a x : α) : (pre ++ [a]).set pre.length x = pre ++ [x] := by
  induction pre with
  | nil => rfl
  | cons y r ih => show y :: (r ++ [a]).set r.length x = _; rw [ih]; rfl
theorem Twin.size_n {X : RefV} {D : DiskV} {L : LogV} {rs : List RSeg} {synced N : Nat} (h : Twin X D L rs synced) (hl : Lim N D) {s : RSeg} (hs : s ∈ rs) : s.size ≤ N * 3000 ∧ s.bodies.length ≤ N * 3000 := by
  obtain ⟨i, f, h1, h2, h3⟩ := h.files s hs
  have hf := (hl.each f (List.mem_of_getElem? h2)).2
  have e1 : f.now.size = s.grp.txt.length := by rw [← h3]; simp
  have e2 := h.sizes s hs
  have e3 : ∀ (bs : List (List UInt8)) f, bs.length ≤ (framesL f bs).length := by
    intro bs
    induction bs with
    | nil => intro f; exact Nat.zero_le _
    | cons b r ih =>
      intro f
      rw [framesL, List.length_append, List.length_cons]
      have h4 : 1 ≤ (Frame.putF f b).length := by
        unfold Frame.putF
        rw [List.length_append, List.length_append, Frame.sumL_length]; omega
      have := ih (f + 1)
      omega
  have e4 := e3 s.grp.bodies s.first
  have e5 : s.grp.bodies.length = s.bodies.length := List.length_map _
  have e6 : s.grp.txt = framesL s.first s.grp.bodies := rfl
  rw [← e6] at e4
  exact ⟨by omega, by omega⟩
namespace Two
variable {w w1 : World} {n pb d r lg q off off' : Nat} {L L' : LogV} {D D' : DiskV} {rs rs' : List RSeg} {synced synced' : Nat} {X X' : RefV} {F1 F2 : Nat → Prop}
theorem plt (h : Two w n pb d r lg q off L D rs synced X F1 F2) : pb < w.heap.size := Heap.lt h.play
theorem turn1 (h : Two w n pb d r lg q off L D rs synced X F1 F2) (hd : Store w1 lg d L' D' (Grow F1 w w1) off') (ho : Off F1 w w1) : Two w1 n pb d r lg q off' L' D' rs synced X (Grow F1 w w1) F2 := by
  have hs := ho.size
  have hp := h.plt
  have hn := h.np
  refine ⟨ho.at_ h.play h.p1, hd, h.rst.off ho (fun b h2 h1 => h.apart b h1 h2), fun b hb h2 => ?_, fun hb => hb.elim h.p1 (fun x => by omega), h.p2, fun b hb => ?_, fun b hb => ⟨(h.f2 b hb).1, Nat.lt_of_lt_of_le (h.f2 b hb).2 hs⟩, h.np⟩
  · rcases hb with hb | hb
    · exact h.apart b hb h2
    · have := (h.f2 b h2).2; omega
  · rcases hb with hb | hb
    · exact ⟨(h.f1 b hb).1, Nat.lt_of_lt_of_le (h.f1 b hb).2 hs⟩
    · exact ⟨by omega, hb.2⟩
theorem turn2 (h : Two w n pb d r lg q off L D rs synced X F1 F2) (hd : RStore w1 q r rs' synced' X' (Grow F2 w w1)) (ho : Off F2 w w1) : Two w1 n pb d r lg q off L D rs' synced' X' F1 (Grow F2 w w1) := by
  have hs := ho.size
  have hp := h.plt
  have hn := h.np
  refine ⟨ho.at_ h.play h.p2, h.st.off ho (fun b h1 h2 => h.apart b h1 h2), hd, fun b hb h2 => ?_, h.p1, fun hb => hb.elim h.p2 (fun x => by omega), fun b hb => ⟨(h.f1 b hb).1, Nat.lt_of_lt_of_le (h.f1 b hb).2 hs⟩, fun b hb => ?_, h.np⟩
  · rcases h2 with h2 | h2
    · exact h.apart b hb h2
    · have := (h.f1 b hb).2; omega
  · rcases hb with hb | hb
    · exact ⟨(h.f2 b hb).1, Nat.lt_of_lt_of_le (h.f2 b hb).2 hs⟩
    · exact ⟨by omega, hb.2⟩
end Two
/- The reference's log, wherever it lies. -/
namespace RStore
variable {w : World} {q r synced N : Nat} {rs pre : List RSeg} {a : RSeg} {X : RefV} {F : Nat → Prop}
theorem rows_of {rows : List RRow} (h1 : rows.map (·.1) = pre ++ [a]) : ∃ hl : rows.length = pre.length + 1, (rows[pre.length]'(by omega)).1 = a ∧ (rows.take pre.length).map (·.1) = pre := by
  have hl : rows.length = pre.length + 1 := by have := congrArg List.length h1; simpa using this
  refine ⟨hl, ?_, ?_⟩
  · have h3 : (rows.map (·.1))[pre.length]? = (pre ++ [a])[pre.length]? := by rw [h1]
    rw [List.getElem?_map, List.getElem?_eq_getElem (by omega), List.getElem?_append_right (Nat.le_refl _), Nat.sub_self] at h3
    exact Option.some.inj h3
  · rw [List.map_take, h1, List.take_left]
theorem map_set {rows : List RRow} (h1 : rows.map (·.1) = pre ++ [a]) (x : RSeg) (v : Value) : (rows.set pre.length (x, v)).map (·.1) = pre ++ [x] := by
  rw [List.map_set, h1, set_last]
theorem append (h : RStore w q r (pre ++ [a]) synced X F) (hk : pre.length ≤ 1000000) (hs : a.end_ ≤ 2000000000001) (hsz : a.size ≤ 4000000000) (hl : RLim N X) (body : ByteArray) (hb : body.size ≤ 140737488355328) :
    Calls Tryz.prog 84 #[.pointer (some ⟨q, 0, none⟩), .string body] w fun e w' => e = .returned (.tuple #[.int .u64 (X.lappend a body).2.2.1, .int .i64 (X.lappend a body).2.2.2]) ∧ Off F w w' ∧ RStore w' q r (pre ++ [(X.lappend a body).2.1]) synced (X.lappend a body).1 (Grow F w w') := by
  obtain ⟨rows, lv, A, Fr, h1, h2⟩ := h
  obtain ⟨hn, hx, _⟩ := rows_of h1
  refine (RefL.append_any w q r synced pre.length rows lv A X Fr F h2 hn hk a hx hs hsz N hl body hb).mono ?_
  rintro e w' ⟨rfl, ho, Fr', A', v, h3⟩
  exact ⟨rfl, ho, _, _, _, _, map_set h1 _ v, h3⟩
theorem sync (h : RStore w q r (pre ++ [a]) synced X F) (hs : a.end_ ≤ 2000000000001) (hsy : synced ≤ a.bodies.length) :
    Calls Tryz.prog 85 #[.pointer (some ⟨q, 0, none⟩)] w fun e w' => e = .returned (.int .i64 (X.lsync a synced).2.2) ∧ Off F w w' ∧ RStore w' q r (pre ++ [a]) (X.lsync a synced).2.1 (X.lsync a synced).1 (Grow F w w') := by
  obtain ⟨rows, lv, A, Fr, h1, h2⟩ := h
  obtain ⟨hn, hx, _⟩ := rows_of h1
  refine (RefL.sync_any w q r synced pre.length rows lv A X Fr F h2 hn a hx hs hsy).mono ?_
  rintro e w' ⟨rfl, ho, Fr', h3⟩
  exact ⟨rfl, ho, _, _, _, _, h1, h3⟩
theorem undo (h : RStore w q r (pre ++ [a]) synced X F) (hk : pre.length ≤ 1000000) (hs : a.end_ ≤ 2000000000001) (hsy : synced ≤ a.bodies.length) (hsm : ∀ b ∈ a.bodies, b.size ≤ 2000) (hl : RLim N X) :
    Calls Tryz.prog 86 #[.pointer (some ⟨q, 0, none⟩)] w fun e w' => e = .returned (.int .i64 (X.lundo a synced).2.2) ∧ Off F w w' ∧ RStore w' q r (pre ++ [(X.lundo a synced).2.1]) synced (X.lundo a synced).1 (Grow F w w') := by
  obtain ⟨rows, lv, A, Fr, h1, h2⟩ := h
  obtain ⟨hn, hx, _⟩ := rows_of h1
  refine (RefL.undo_any w q r synced pre.length N rows lv A X Fr F h2 hl hn hk a hx hs hsy hsm).mono ?_
  rintro e w' ⟨rfl, ho, Fr', v, h3⟩
  exact ⟨rfl, ho, _, _, _, _, map_set h1 _ v, h3⟩
theorem roll (h : RStore w q r (pre ++ [a]) synced X F) (hk : pre.length < 1000000) (hs : a.end_ ≤ 2000000000001) (hl : RLim N X) :
    Calls Tryz.prog 87 #[.pointer (some ⟨q, 0, none⟩)] w fun e w' => e = .returned (.int .i64 (X.lroll pre a synced).2.2.2) ∧ Off F w w' ∧ RStore w' q r (X.lroll pre a synced).2.1 (X.lroll pre a synced).2.2.1 (X.lroll pre a synced).1 (Grow F w w') := by
  obtain ⟨rows, lv, A, Fr, h1, h2⟩ := h
  obtain ⟨hn, hx, hp⟩ := rows_of h1
  have h4 := RefL.roll_any w q r synced pre.length N rows lv A X Fr F h2 (fun name => hl.sync name) (by omega) hn a hx hs
  rw [hp] at h4
  refine h4.mono ?_
  rintro e w' ⟨rfl, ho, rows', lv', Fr', h3, h5⟩
  exact ⟨rfl, ho, _, _, _, _, h3, h5⟩
theorem drop (h : RStore w q r rs synced X F) (hne : rs ≠ []) (hx : rs.length ≤ 1000000) (hf : ∀ s ∈ rs, s.first < 18446744073709551616) (hl : RLim N X) :
    Calls Tryz.prog 88 #[.pointer (some ⟨q, 0, none⟩)] w fun e w' => e = .returned (.int .i64 (X.ldrop rs).2.2) ∧ Off F w w' ∧ RStore w' q r (X.ldrop rs).2.1 synced (X.ldrop rs).1 (Grow F w w') := by
  obtain ⟨rows, lv, A, Fr, h1, h2⟩ := h
  have h4 := RefL.drop_any w q r synced N rows lv A X Fr F h2 hl (by rw [← h1, List.length_map] at hx; exact hx) (fun e => hne (by rw [← h1, e]; rfl)) (fun x hx => hf _ (by rw [← h1]; exact List.mem_map_of_mem hx))
  rw [h1] at h4
  refine h4.mono ?_
  rintro e w' ⟨rfl, ho, rows', lv', Fr', h3, h5⟩
  exact ⟨rfl, ho, _, _, _, _, h3, h5⟩
end RStore
/-- A play whose logs stand. -/
structure Play (w : World) (n pb d r lg q off U N : Nat) (L : LogV) (D : DiskV) (rs : List RSeg) (synced : Nat) (X : RefV) (F1 F2 : Nat → Prop) : Prop where
  two : Two w n pb d r lg q off L D rs synced X F1 F2
  deck : PDeck U N D X L rs synced
  le : N ≤ 300
  hU : U ≤ 900000000000
  one : 1 ≤ U
namespace Play
variable {w w1 : World} {n pb d r lg q off U N : Nat} {L : LogV} {D : DiskV} {rs pre : List RSeg} {a : RSeg} {synced : Nat} {X : RefV} {F1 F2 : Nat → Prop}
theorem quiet (h : Play w n pb d r lg q off U N L D rs synced X F1 F2) (ho : Off None w w1) : Play w1 n pb d r lg q off U N L D rs synced X F1 F2 := ⟨h.two.quiet ho, h.deck, h.le, h.hU, h.one⟩
/-- What stands of the last segment. -/
theorem last (h : Play w n pb d r lg q off U N L D rs synced X F1 F2) : ∃ pre a, rs = pre ++ [a] ∧ pre.length < 1000000 ∧ a.end_ ≤ 900000000000 ∧ a.size ≤ 900000 ∧ a.bodies.length ≤ 900000 ∧ synced ≤ a.bodies.length ∧ (∀ b ∈ a.bodies, b.size ≤ 2000) ∧ L.act = a.seg ∧ L.segs.length = rs.length := by
  obtain ⟨pre, a, hr, hs, ha, _, _⟩ := h.deck.td.twin.ends
  have hle := h.le
  have hU := h.hU
  have hm : a ∈ rs := by rw [hr]; simp
  have h1 := h.deck.td.twin.size_n h.deck.lim hm
  have h2 := h.deck.td.twin.few
  have h3 := h.deck.lim.names
  have h4 := h.deck.ends a hm
  have h5 : N * 3000 ≤ 300 * 3000 := Nat.mul_le_mul_right _ hle
  have h6 := congrArg List.length h.deck.td.twin.segs
  rw [List.length_map] at h6
  have h7 := congrArg List.length hr
  rw [List.length_append, List.length_singleton] at h7
  refine ⟨pre, a, hr, by omega, by omega, by omega, by omega, hs, fun b hb => ?_, ha, h6⟩
  have h8 := h.deck.td.twin.small a hm (bytesOf b) (List.mem_map_of_mem hb)
  have e : (bytesOf b).length = b.size := by unfold bytesOf; simp
  omega
theorem pre1 (h : Play w n pb d r lg q off U N L D rs synced X F1 F2) : L.Ok := h.deck.td.twin.ok h.deck.lim
theorem append1 (h : Play w n pb d r lg q off U N L D rs synced X F1 F2) (hG : Glob n w) (body : ByteArray) (hb : body.size ≤ 140737488355328) :
    Calls Tryz.prog 13 #[.pointer (some ⟨lg, 0, none⟩), .string body] w fun e w' =>
      e = .returned (.tuple #[.int .u64 (L.append D body).2.2.1, .int .i64 (L.append D body).2.2.2]) ∧ Two w' n pb d r lg q off (L.append D body).1 (L.append D body).2.1 rs synced X (Grow F1 w w') F2 ∧ Off F1 w w' := by
  obtain ⟨pre, a, _, _, h1, h2, h3, _, _, h4, _⟩ := h.last
  unfold RSeg.end_ at h1
  have e1 : L.act.many = a.bodies.length := by rw [h4]; rfl
  have e2 : L.act.size = a.size := by rw [h4]; rfl
  have e3 : L.act.first = a.first := by rw [h4]; rfl
  refine (Seg.append_any w lg d n N L D F1 off h.two.st hG (fun b hb => (h.two.f1 b hb).1) h.pre1 h.deck.lim (by omega) (by omega) (by omega) body hb).mono ?_
  rintro e w' ⟨rfl, h5, h6⟩
  exact ⟨rfl, h.two.turn1 h5 h6, h6⟩
theorem sync1 (h : Play w n pb d r lg q off U N L D rs synced X F1 F2) (hG : Glob n w) :
    Calls Tryz.prog 34 #[.pointer (some ⟨lg, 0, none⟩)] w fun e w' => e = .returned (.int .i64 (L.sync D).2.2) ∧ (∃ off', Two w' n pb d r lg q off' (L.sync D).1 (L.sync D).2.1 rs synced X (Grow F1 w w') F2) ∧ Off F1 w w' := by
  refine (Seg.sync_any w lg d n N L D F1 off h.two.st hG (fun b hb => (h.two.f1 b hb).1) h.pre1 h.deck.lim).mono ?_
  rintro e w' ⟨rfl, h5, h6⟩
  exact ⟨rfl, ⟨_, h.two.turn1 h5 h6⟩, h6⟩
theorem undo1 (h : Play w n pb d r lg q off U N L D rs synced X F1 F2) (hG : Glob n w) :
    Calls Tryz.prog 35 #[.pointer (some ⟨lg, 0, none⟩)] w fun e w' => e = .returned (.int .i64 (L.undo D).2.2) ∧ (∃ off', Two w' n pb d r lg q off' (L.undo D).1 (L.undo D).2.1 rs synced X (Grow F1 w w') F2) ∧ Off F1 w w' := by
  refine (Seg.undo_any w lg d n N L D F1 off h.two.st hG (fun b hb => (h.two.f1 b hb).1) h.pre1 h.deck.lim).mono ?_
  rintro e w' ⟨rfl, h5, h6⟩
  exact ⟨rfl, ⟨_, h.two.turn1 h5 h6⟩, h6⟩
theorem roll1 (h : Play w n pb d r lg q off U N L D rs synced X F1 F2) (hG : Glob n w) :
    Calls Tryz.prog 16 #[.pointer (some ⟨lg, 0, none⟩)] w fun e w' => e = .returned (.int .i64 (L.roll D).2.2) ∧ (∃ off', Two w' n pb d r lg q off' (L.roll D).1 (L.roll D).2.1 rs synced X (Grow F1 w w') F2) ∧ Off F1 w w' := by
  have hlen : L.segs.length ≤ 1000000 := by
    obtain ⟨pre, a, h1, h2, _, _, _, _, _, _, h3⟩ := h.last
    have := congrArg List.length h1
    rw [List.length_append, List.length_singleton] at this
    omega
  refine (Seg.roll_o w lg d n N L D F1 off h.two.st hG (fun b hb => (h.two.f1 b hb).1) h.pre1 h.deck.lim hlen).mono ?_
  rintro e w' ⟨rfl, ⟨off', h5⟩, h6⟩
  exact ⟨rfl, ⟨_, h.two.turn1 h5 h6⟩, h6⟩
theorem drop1 (h : Play w n pb d r lg q off U N L D rs synced X F1 F2) (hG : Glob n w) :
    Calls Tryz.prog 33 #[.pointer (some ⟨lg, 0, none⟩)] w fun e w' => e = .returned (.int .i64 (L.drop D).2.2) ∧ (∃ off', Two w' n pb d r lg q off' (L.drop D).1 (L.drop D).2.1 rs synced X (Grow F1 w w') F2) ∧ Off F1 w w' := by
  refine (Seg.drop_any w lg d n N L D F1 off h.two.st hG (fun b hb => (h.two.f1 b hb).1) h.pre1 h.deck.lim).mono ?_
  rintro e w' ⟨rfl, ⟨off', h5⟩, h6⟩
  exact ⟨rfl, ⟨_, h.two.turn1 h5 h6⟩, h6⟩
/- The reference's half, in any world in which the program's half is done. -/
theorem append2 (h : Play w n pb d r lg q off U N L D (pre ++ [a]) synced X F1 F2) {L' : LogV} {D' : DiskV} {off' : Nat} {G1 : Nat → Prop} (ht : Two w1 n pb d r lg q off' L' D' (pre ++ [a]) synced X G1 F2) (body : ByteArray) (hb : body.size ≤ 140737488355328) :
    Calls Tryz.prog 84 #[.pointer (some ⟨q, 0, none⟩), .string body] w1 fun e w' => e = .returned (.tuple #[.int .u64 (X.lappend a body).2.2.1, .int .i64 (X.lappend a body).2.2.2]) ∧ Two w' n pb d r lg q off' L' D' (pre ++ [(X.lappend a body).2.1]) synced (X.lappend a body).1 G1 (Grow F2 w1 w') ∧ Off F2 w1 w' := by
  obtain ⟨pre', a', hr, hp, h1, h2, h3, _, _, _, _⟩ := h.last
  obtain ⟨rfl, hr2⟩ := List.append_inj' hr rfl
  obtain rfl : a = a' := List.head_eq_of_cons_eq hr2
  refine (ht.rst.append (by omega) (by omega) (by omega) h.deck.rlim body hb).mono ?_
  rintro e w' ⟨rfl, h5, h6⟩
  exact ⟨rfl, ht.turn2 h6 h5, h5⟩
theorem sync2 (h : Play w n pb d r lg q off U N L D (pre ++ [a]) synced X F1 F2) {L' : LogV} {D' : DiskV} {off' : Nat} {G1 : Nat → Prop} (ht : Two w1 n pb d r lg q off' L' D' (pre ++ [a]) synced X G1 F2) :
    Calls Tryz.prog 85 #[.pointer (some ⟨q, 0, none⟩)] w1 fun e w' => e = .returned (.int .i64 (X.lsync a synced).2.2) ∧ Two w' n pb d r lg q off' L' D' (pre ++ [a]) (X.lsync a synced).2.1 (X.lsync a synced).1 G1 (Grow F2 w1 w') ∧ Off F2 w1 w' := by
  obtain ⟨pre', a', hr, hp, h1, h2, h3, h4, _, _, _⟩ := h.last
  obtain ⟨rfl, hr2⟩ := List.append_inj' hr rfl
  obtain rfl : a = a' := List.head_eq_of_cons_eq hr2
  refine (ht.rst.sync (by omega) h4).mono ?_
  rintro e w' ⟨rfl, h5, h6⟩
  exact ⟨rfl, ht.turn2 h6 h5, h5⟩
theorem undo2 (h : Play w n pb d r lg q off U N L D (pre ++ [a]) synced X F1 F2) {L' : LogV} {D' : DiskV} {off' : Nat} {G1 : Nat → Prop} (ht : Two w1 n pb d r lg q off' L' D' (pre ++ [a]) synced X G1 F2) :
    Calls Tryz.prog 86 #[.pointer (some ⟨q, 0, none⟩)] w1 fun e w' => e = .returned (.int .i64 (X.lundo a synced).2.2) ∧ Two w' n pb d r lg q off' L' D' (pre ++ [(X.lundo a synced).2.1]) synced (X.lundo a synced).1 G1 (Grow F2 w1 w') ∧ Off F2 w1 w' := by
  obtain ⟨pre', a', hr, hp, h1, h2, h3, h4, h7, _, _⟩ := h.last
  obtain ⟨rfl, hr2⟩ := List.append_inj' hr rfl
  obtain rfl : a = a' := List.head_eq_of_cons_eq hr2
  refine (ht.rst.undo (by omega) (by omega) h4 h7 h.deck.rlim).mono ?_
  rintro e w' ⟨rfl, h5, h6⟩
  exact ⟨rfl, ht.turn2 h6 h5, h5⟩
theorem roll2 (h : Play w n pb d r lg q off U N L D (pre ++ [a]) synced X F1 F2) {L' : LogV} {D' : DiskV} {off' : Nat} {G1 : Nat → Prop} (ht : Two w1 n pb d r lg q off' L' D' (pre ++ [a]) synced X G1 F2) :
    Calls Tryz.prog 87 #[.pointer (some ⟨q, 0, none⟩)] w1 fun e w' => e = .returned (.int .i64 (X.lroll pre a synced).2.2.2) ∧ Two w' n pb d r lg q off' L' D' (X.lroll pre a synced).2.1 (X.lroll pre a synced).2.2.1 (X.lroll pre a synced).1 G1 (Grow F2 w1 w') ∧ Off F2 w1 w' := by
  obtain ⟨pre', a', hr, hp, h1, h2, h3, h4, h7, _, _⟩ := h.last
  obtain ⟨rfl, hr2⟩ := List.append_inj' hr rfl
  obtain rfl : a = a' := List.head_eq_of_cons_eq hr2
  refine (ht.rst.roll hp (by omega) h.deck.rlim).mono ?_
  rintro e w' ⟨rfl, h5, h6⟩
  exact ⟨rfl, ht.turn2 h6 h5, h5⟩
theorem drop2 (h : Play w n pb d r lg q off U N L D (pre ++ [a]) synced X F1 F2) {L' : LogV} {D' : DiskV} {off' : Nat} {G1 : Nat → Prop} (ht : Two w1 n pb d r lg q off' L' D' (pre ++ [a]) synced X G1 F2) :
    Calls Tryz.prog 88 #[.pointer (some ⟨q, 0, none⟩)] w1 fun e w' => e = .returned (.int .i64 (X.ldrop (pre ++ [a])).2.2) ∧ Two w' n pb d r lg q off' L' D' (X.ldrop (pre ++ [a])).2.1 synced (X.ldrop (pre ++ [a])).1 G1 (Grow F2 w1 w') ∧ Off F2 w1 w' := by
  obtain ⟨pre', a', hr, hp, h1, h2, h3, h4, h7, _, _⟩ := h.last
  obtain ⟨rfl, hr2⟩ := List.append_inj' hr rfl
  have hU := h.hU
  refine (ht.rst.drop (by simp) (by rw [List.length_append, List.length_singleton]; omega) (fun s hs => ?_) h.deck.rlim).mono ?_
  · have h5 := h.deck.ends s hs
    unfold RSeg.end_ at h5
    omega
  · rintro e w' ⟨rfl, h5, h6⟩
    exact ⟨rfl, ht.turn2 h6 h5, h5⟩
end Play
/- The disks of a play. -/
theorem Store.onDisk {w : World} {lg d off : Nat} {L : LogV} {D : DiskV} {F : Nat → Prop} (h : Store w lg d L D F off) : ∃ Fd : Nat → Prop, DiskIn w d D Fd ∧ (∀ b, Fd b → F b) ∧ ∀ w' D', DiskIn w' d D' (Grow Fd w w') → Off Fd w w' → Store w' lg d L D' (Grow F w w') off ∧ Off F w w' := by
  obtain ⟨g, cap, Fd, hs⟩ := h
  exact ⟨Fd, hs.disk, hs.inD, fun w' D' h1 h2 => ⟨⟨g, cap, _, hs.disk' h1 h2⟩, hs.offF h2⟩⟩
theorem RStore.onDisk {w : World} {q r synced : Nat} {rs : List RSeg} {X : RefV} {F : Nat → Prop} (h : RStore w q r rs synced X F) : ∃ Fr : Nat → Prop, RefIn w r X Fr ∧ (∀ b, Fr b → F b) ∧ ∀ w' X', RefIn w' r X' (Grow Fr w w') → Off Fr w w' → RStore w' q r rs synced X' (Grow F w w') ∧ Off F w w' := by
  obtain ⟨rows, lv, A, Fr, h1, h2⟩ := h
  exact ⟨Fr, h2.disk, fun b hb => (h2.inR b hb).1, fun w' X' h3 h4 => ⟨⟨rows, lv, A, _, h1, h2.turned h3 h4⟩, h2.off_disk h4⟩⟩
theorem Two.duo {w : World} {n pb d r lg q off : Nat} {L : LogV} {D : DiskV} {rs : List RSeg} {synced : Nat} {X : RefV} {F1 F2 : Nat → Prop} (h : Two w n pb d r lg q off L D rs synced X F1 F2) :
    ∃ G1 G2 : Nat → Prop, Duo w n pb d r (.pointer (some ⟨lg, 0, none⟩)) (.pointer (some ⟨q, 0, none⟩)) D X G1 G2 ∧ (∀ b, G1 b → F1 b) ∧ ∀ b, G2 b → F2 b := by
  obtain ⟨G1, h1, h2, _⟩ := h.st.onDisk
  obtain ⟨G2, h3, h4, _⟩ := h.rst.onDisk
  exact ⟨G1, G2, ⟨h.play, h1, h3, fun b hb hb2 => h.apart b (h2 b hb) (h4 b hb2), fun hb => h.p1 (h2 _ hb), fun hb => h.p2 (h4 _ hb), fun b hb => h.f1 b (h2 b hb), fun b hb => h.f2 b (h4 b hb), h.np⟩, h2, h4⟩
/-- Both disks are alike, whatever the logs say. -/
theorem Deck.of_crash {U N : Nat} {D : DiskV} {X : RefV} (h1 : Sim X D) (h2 : Lim N D) (h3 : RLim N X) (h4 : CrashOk U D) : Deck U N D X :=
  ⟨h1, fun p hp => (h4.last.each p hp).1, h4.last.apart, h2, h3, fun p hp => (h4.last.each p hp).2⟩
end Go.Proofs.YtnppdcegpojmbaaGreatDoor
