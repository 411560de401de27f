/- Texts that a log keeps: those that are not too long. · Slices that read as lists, and append of one onto a row of the call's own (after the kit's extra-words). No program stands here. · The walk of SegmentUndoes. -/
import Derived.Test.YtnppdcegpojmbaaGreatDoorLaw2
import Derived.Below
import Derived.Laws.OwnMore
import Derived.Deep.AppendLies
import Derived.Deep.Draws
import Derived.Maps.AppendAt
import Derived.RegionTactic
import Derived.OwnWalk
import Derived.Test.YtnppdcegpojmbaaGreatDoorRow
namespace Go.Proofs.YtnppdcegpojmbaaGreatDoor
open Go Go.RowKit
namespace Law
/-- The texts that are not too long. -/
def keptL (l : List ByteArray) : List (List UInt8) := (l.filter fun t => decide (t.size ≤ 2000)).map fun t => t.data.toList
theorem keptL_append (a b : List ByteArray) : keptL (a ++ b) = keptL a ++ keptL b := by unfold keptL; rw [List.filter_append, List.map_append]
theorem keptL_short {t : ByteArray} (h : t.size ≤ 2000) : keptL [t] = [t.data.toList] := by
  unfold keptL; rw [List.filter_cons_of_pos (by simpa using h)]; rfl
theorem keptL_long {t : ByteArray} (h : 2000 < t.size) : keptL [t] = [] := by
  unfold keptL; rw [List.filter_cons_of_neg (by simpa using h)]; rfl
theorem keptL_len (l : List ByteArray) : (keptL l).length ≤ l.length := by
  unfold keptL; rw [List.length_map]; exact List.length_filter_le _ _
theorem keptL_small (l : List ByteArray) : ∀ b ∈ keptL l, b.length ≤ 2000 := by
  intro b hb
  unfold keptL at hb
  obtain ⟨t, ht, rfl⟩ := List.mem_map.1 hb
  have := (List.mem_filter.1 ht).2
  simpa using this
theorem keptL_take (l : List ByteArray) {i : Nat} (h : i < l.length) : keptL (l.take (i + 1)) = keptL (l.take i) ++ keptL [l[i]] := by
  rw [List.take_succ_eq_append_getElem h, keptL_append]
theorem keptL_at (l : List ByteArray) {i : Nat} (h : i < l.length) (hs : l[i].size ≤ 2000) : (keptL l)[(keptL (l.take i)).length]? = some l[i].data.toList := by
  have e : l = l.take i ++ ([l[i]] ++ l.drop (i + 1)) := by
    rw [List.singleton_append, ← List.drop_eq_getElem_cons h, List.take_append_drop]
  have h2 : keptL l = keptL (l.take i) ++ (keptL [l[i]] ++ keptL (l.drop (i + 1))) := by
    rw [← keptL_append, ← keptL_append, ← e]
  rw [h2, List.getElem?_append_right (Nat.le_refl _), Nat.sub_self, keptL_short hs]
  rfl
theorem kept_sum (bs : List (List UInt8)) (h : ∀ b ∈ bs, b.length ≤ 2000) (hl : bs.length ≤ 1000) : GoodLog.sum ([] ++ [(⟨1, bs⟩ : Grp)]) ≤ bs.length * 2024 := by
  have := framesL_len bs h 1 (by omega)
  unfold GoodLog.sum
  simpa [Grp.txt] using this
variable {n N : Nat} {A : Nat → Prop} {w : World} {lg d k : Nat} {bs : List (List UInt8)}
/-- Append of any text: what is too long is refused, and changes nothing. -/
theorem append_kept (h : Held 1000000 n N A w lg d 0 1 [] ⟨1, bs⟩ k) (body : ByteArray) (hb : body.size ≤ 140737488355328) (hs : ∀ b ∈ bs, b.length ≤ 2000) (hl : bs.length ≤ 100) (hN : N ≤ 1000) :
    Calls Tryz.prog 13 #[.pointer (some ⟨lg, 0, none⟩), .string body] w fun e w' =>
      ∃ q er : Int, ∃ N' : Nat, e = .returned (.tuple #[.int .u64 q, .int .i64 er]) ∧ N' ≤ N + 1 ∧ Held 1000000 n N' A w' lg d 0 1 [] ⟨1, bs ++ keptL [body]⟩ k ∧ Off (Rest n A) w w' := by
  by_cases hsz : body.size ≤ 2000
  · have hp := Frame.putF_len (1 + bs.length) body.data.toList (by omega) (show body.data.toList.length ≤ 2000 by simpa using hsz)
    have hq : body.data.toList.length ≤ 2000 := by simpa using hsz
    have hsum := kept_sum bs hs (by omega)
    refine (h.append body hsz (by show _ + (Frame.putF (1 + bs.length) body.data.toList).length ≤ _; omega) (by show 1 + bs.length + 1 ≤ _; omega) (by omega)).mono ?_
    rintro e w' ⟨rfl, h', ho⟩
    refine ⟨_, _, N + 1, rfl, Nat.le_refl _, ?_, ho⟩
    rw [keptL_short hsz]
    exact h'
  · refine (h.append_long body (by omega) hb (by show 1 + bs.length + 1 ≤ _; omega)).mono ?_
    rintro e w' ⟨rfl, h', ho⟩
    refine ⟨_, _, N, rfl, by omega, ?_, ho⟩
    rw [keptL_long (by omega), List.append_nil]
    exact h'
end Law
end Go.Proofs.YtnppdcegpojmbaaGreatDoor
namespace Go.Proofs.YtnppdcegpojmbaaGreatDoor
open Go Go.RowKit
namespace Words
theorem block_of_add (a : Addr) (n : Nat) : (a.add n).block = a.block := by unfold Addr.add; split <;> rfl
theorem add_of_add (a : Addr) (i j : Nat) : (a.add i).add j = a.add (i + j) := by
  unfold Addr.add
  by_cases hi : i = 0 <;> by_cases hj : j = 0 <;> simp [hi, hj, Nat.add_assoc]

def Reads (w : World) (B size : Nat) (A : Option Addr) (n : Nat) (xs : List Value) : Prop :=
  xs.length = n * size ∧ (0 < n → ∃ ad, A = some ad ∧ ad.block < B ∧ ∀ j u, xs[j]? = some u → w.cell? (ad.add j) = some u)

section
variable {w w' : World} {B B' size n : Nat} {A : Option Addr} {xs : List Value}
theorem Reads.none_ : Reads w B size A 0 [] := ⟨by simp, fun h => absurd h (by omega)⟩
theorem Reads.at_ {k : Nat} (h : Reads w B 1 A n xs) (hk : k < n) : ∃ ad u, A = some ad ∧ ad.block < B ∧ xs[k]? = some u ∧ w.cell? (ad.add k) = some u := by
  obtain ⟨ad, e, hb, hc⟩ := h.2 (by omega)
  have hl : k < xs.length := by have := h.1; omega
  exact ⟨ad, xs[k], e, hb, List.getElem?_eq_getElem hl, hc k _ (List.getElem?_eq_getElem hl)⟩
theorem Reads.keep (h : Reads w B size A n xs) (hk : ∀ p : Addr, p.block < B → w'.cell? p = w.cell? p) : Reads w' B size A n xs :=
  ⟨h.1, fun hn => by
    obtain ⟨ad, e, hb, hc⟩ := h.2 hn
    exact ⟨ad, e, hb, fun j u hu => (hk _ (by rw [block_of_add]; exact hb)).trans (hc j u hu)⟩⟩
theorem Reads.more (h : Reads w B size A n xs) (hB : B ≤ B') : Reads w B' size A n xs :=
  ⟨h.1, fun hn => by
    obtain ⟨ad, e, hb, hc⟩ := h.2 hn
    exact ⟨ad, e, by omega, hc⟩⟩
theorem Reads.below (h : Reads w B size A n xs) (hb : Below B w w') : Reads w' B size A n xs := h.keep fun _ hp => hb.cell hp
theorem Reads.drew (h : Reads w B size A n xs) : Reads w.drew B size A n xs := h
theorem Reads.drewN (h : Reads w B size A n xs) (k : Nat) : Reads (w.drewN k) B size A n xs := h
theorem Reads.alloc (h : Reads w B size A n xs) (hB : B ≤ w.heap.size) (o : Obj) : Reads (w.alloc o) B size A n xs := h.keep fun p hp => World.cell?_alloc_lt w o p (by omega)
theorem Reads.setCell (h : Reads w B size A n xs) {p : Addr} (hB : B ≤ p.block) (u : Value) : Reads (w.setCell p u) B size A n xs :=
  h.keep fun q hq => World.cell?_setCell_other w p q u (fun e => by subst e; omega)
theorem Reads.grown (h : Reads w B size A n xs) {row : Option Nat} (hg : w.grownBy w' row) (hB : B ≤ w.heap.size) (hr : ∀ g, row = some g → B ≤ g) : Reads w' B size A n xs :=
  h.keep fun p hp => World.cell?_of_block (hg.block p.block (by omega) (fun e => by have := hr _ e.symm; omega))
theorem Reads.cut (h : Reads w B size A n xs) {k cap : Nat} (hk : k ≤ n) (hc : n ≤ cap) :
    Reads w B size (if cap = k then A else A.map (·.add (k * size))) (n - k) (xs.drop (k * size)) := by
  refine ⟨by rw [List.length_drop, h.1, Nat.sub_mul], fun hn => ?_⟩
  obtain ⟨ad, rfl, hb, hcell⟩ := h.2 (by omega)
  rw [if_neg (by omega)]
  refine ⟨ad.add (k * size), rfl, by rw [block_of_add]; exact hb, fun j u hu => ?_⟩
  rw [add_of_add]
  exact hcell _ u (by rw [← hu, List.getElem?_drop])
theorem Reads.of_own {base : Nat} {e : TypeId} {c : Nat} (h : w.ownsRow base e size (.slice A n c) n xs) : Reads w w.heap.size size A n xs := by
  refine ⟨h.1, fun hn => ?_⟩
  obtain ⟨g, cap, hv, _, hlt⟩ := h.form hn
  have hA : A = some ⟨g, 0, none⟩ := by injection hv
  subst hA
  exact ⟨_, rfl, hlt, h.cells (g := g) rfl⟩
end
section
variable {P : Program} (w : World)

theorem run_append_of_nil (base : Nat) (t ty e : TypeId) (i : TypeInfo) (size : Nat) (ht : P.underlying t = some (.slice e)) (hi : P.info? e = some i)
    (v : Value) (n : Nat) (xs : List Value) (hown : w.ownsRow base e size v n xs) (c : Nat) : (Builtin.append_ #[t, t] ty #[v, .slice none 0 c]).run P w = .ok v w := by
  rcases hown.2 with ⟨rfl, rfl⟩ | ⟨g, cap, cur, rfl, _, _, hnc, _⟩
  · simp [Builtin.append_, run_underlying ht, sizeOf, typeInfo, hi, Builtin.lenOf, Builtin.firstCells]
  · simp [Builtin.append_, run_underlying ht, sizeOf, typeInfo, hi, Builtin.lenOf, Builtin.firstCells, hnc, storeCells]

theorem run_append_any (base : Nat) (t ty e : TypeId) (i : TypeInfo) (z : Value) (size bytes : Nat) (ht : P.underlying t = some (.slice e)) (hi : P.info? e = some i) (hz : i.zero = some z)
    (hsize : i.size = size) (hby : i.bytes = bytes) (hzs : z.cells.size = size) (hsz : 0 < size)
    (v : Value) (n : Nat) (xs : List Value) (hown : w.ownsRow base e size v n xs)
    (B : Nat) (A : Option Addr) (m c : Nat) (news : List Value) (hr : Reads w B size A m news) (h1 : ∀ u ∈ news, u.oneCell' = true)
    (h63 : n + m ≤ maxLen) (hbytes : (n + m) * bytes ≤ 140737488355328) (hbase : base ≤ w.heap.size) :
    ∃ v' w', (Builtin.append_ #[t, t] ty #[v, .slice A m c]).run P w = .ok v' w' ∧ w'.ownsRow base e size v' (n + m) (xs ++ news) ∧ w.grownBy w' v.ownBlock ∧
      (v'.ownBlock = v.ownBlock ∨ v'.ownBlock = some w.heap.size) := by
  rcases A with _ | ad
  · have hm : m = 0 := by
      rcases Nat.eq_zero_or_pos m with h0 | h0
      · exact h0
      · obtain ⟨ad, h, _⟩ := hr.2 h0
        cases h
    subst hm
    have hn : news = [] := List.eq_nil_of_length_eq_zero (by simpa using hr.1)
    subst hn
    exact ⟨v, w, run_append_of_nil w base t ty e i size ht hi v n xs hown c, by simpa using hown, World.grownBy.refl w _, .inl rfl⟩
  · have hcells : ∀ j u, news[j]? = some u → w.cell? (ad.add j) = some u := by
      intro j u hu
      rcases Nat.eq_zero_or_pos m with h0 | h0
      · subst h0
        have hn : news = [] := List.eq_nil_of_length_eq_zero (by simpa using hr.1)
        subst hn
        simp at hu
      · obtain ⟨ad', h, _, hc⟩ := hr.2 h0
        injection h with h
        subst h
        exact hc j u hu
    obtain ⟨v', w', hrun, h2, h3, _, h5⟩ := run_append_own_at (P := P) w base t ty e i z size bytes ht hi hz hsize hby hzs hsz v n xs hown ad m c news hr.1 hcells h1 h63 hbytes hbase
    exact ⟨v', w', hrun, h2, h3, h5⟩

theorem wp_append_any {o : Oper} {a : Act} {K : Act → World → Prop} {Q : Exit → Act → World → Prop} (s x : Operand) (t : TypeId)
    (ho : o.op = .call { callee := .builtin .append, args := #[s, x], argTypes := #[t, t] })
    (base : Nat) (e : TypeId) (i : TypeInfo) (z : Value) (size bytes : Nat) (ht : P.underlying t = some (.slice e)) (hi : P.info? e = some i) (hz : i.zero = some z)
    (hsize : i.size = size) (hby : i.bytes = bytes) (hzs : z.cells.size = size) (hsz : 0 < size)
    (v : Value) (n : Nat) (xs : List Value) (hs : a.eval s = v) (hown : w.ownsRow base e size v n xs)
    (B : Nat) (A : Option Addr) (m c : Nat) (news : List Value) (hx : a.eval x = .slice A m c) (hr : Reads w B size A m news) (h1 : ∀ u ∈ news, u.oneCell' = true)
    (h63 : n + m ≤ maxLen) (hbytes : (n + m) * bytes ≤ 140737488355328) (hbase : base ≤ w.heap.size)
    (h : ∀ v' w', w'.ownsRow base e size v' (n + m) (xs ++ news) → w.grownBy w' v.ownBlock → (v'.ownBlock = v.ownBlock ∨ v'.ownBlock = some w.heap.size) → K (a.put o.dst v') w') : o.wp P a w K Q := by
  obtain ⟨v', w', hrun, h2, h3, h4⟩ := run_append_any (P := P) w base t o.type e i z size bytes ht hi hz hsize hby hzs hsz v n xs hown B A m c news hr h1 h63 hbytes hbase
  unfold Oper.wp execOp
  simp only [ho, resolve, invoke, builtin, Sem.run_bind, Sem.run_pure, Result.andThen_ok, List.map_toArray, List.map_cons, List.map_nil, hs, hx, hrun]
  exact h v' w' h2 h3 h4

theorem wpList_append_any {ops : Array Oper} {rest : List Oper} {o : Oper} {a : Act} {Q : Exit → Act → World → Prop} (hgd : o.guard = none) (s x : Operand) (t : TypeId)
    (ho : o.op = .call { callee := .builtin .append, args := #[s, x], argTypes := #[t, t] })
    (base : Nat) (e : TypeId) (i : TypeInfo) (z : Value) (size bytes : Nat) (ht : P.underlying t = some (.slice e)) (hi : P.info? e = some i) (hz : i.zero = some z)
    (hsize : i.size = size) (hby : i.bytes = bytes) (hzs : z.cells.size = size) (hsz : 0 < size)
    (v : Value) (n : Nat) (xs : List Value) (hs : a.eval s = v) (hown : w.ownsRow base e size v n xs)
    (B : Nat) (A : Option Addr) (m c : Nat) (news : List Value) (hx : a.eval x = .slice A m c) (hr : Reads w B size A m news) (h1 : ∀ u ∈ news, u.oneCell' = true)
    (h63 : n + m ≤ maxLen) (hbytes : (n + m) * bytes ≤ 140737488355328) (hbase : base ≤ w.heap.size)
    (h : ∀ v' w', w'.ownsRow base e size v' (n + m) (xs ++ news) → w.grownBy w' v.ownBlock → (v'.ownBlock = v.ownBlock ∨ v'.ownBlock = some w.heap.size) → wpList P ops Q rest (a.put o.dst v') w') : wpList P ops Q (o :: rest) a w :=
  wpList_plain hgd fun _ hK => wp_append_any w s x t ho base e i z size bytes ht hi hz hsize hby hzs hsz v n xs hs hown B A m c news hx hr h1 h63 hbytes hbase fun v' w' h2 h3 h4 => hK _ _ (h v' w' h2 h3 h4)

theorem step_append_any {ops : Array Oper} {o : Oper} {a : Act} {K : Act → World → Prop} {Q : Exit → Act → World → Prop} {E : Prop} (hgd : o.guard = none) (s x : Operand) (t : TypeId)
    (ho : o.op = .call { callee := .builtin .append, args := #[s, x], argTypes := #[t, t] })
    (base : Nat) (e : TypeId) (i : TypeInfo) (z : Value) (size bytes : Nat) (ht : P.underlying t = some (.slice e)) (hi : P.info? e = some i) (hz : i.zero = some z)
    (hsize : i.size = size) (hby : i.bytes = bytes) (hzs : z.cells.size = size) (hsz : 0 < size)
    (v : Value) (n : Nat) (xs : List Value) (hs : a.eval s = v) (hown : w.ownsRow base e size v n xs)
    (B : Nat) (A : Option Addr) (m c : Nat) (news : List Value) (hx : a.eval x = .slice A m c) (hr : Reads w B size A m news) (h1 : ∀ u ∈ news, u.oneCell' = true)
    (h63 : n + m ≤ maxLen) (hbytes : (n + m) * bytes ≤ 140737488355328) (hbase : base ≤ w.heap.size)
    (h : ∀ v' w', w'.ownsRow base e size v' (n + m) (xs ++ news) → w.grownBy w' v.ownBlock → (v'.ownBlock = v.ownBlock ∨ v'.ownBlock = some w.heap.size) → K (a.put o.dst v') w') :
    if Region.wanted o (yielded ops a.tmps) = true then Oper.wp P o a w K Q else E := by
  have hw : Region.wanted o (yielded ops a.tmps) = true := by simp [Region.wanted, hgd]
  rw [if_pos hw]
  exact wp_append_any w s x t ho base e i z size bytes ht hi hz hsize hby hzs hsz v n xs hs hown B A m c news hx hr h1 h63 hbytes hbase h
end
end Words
end Go.Proofs.YtnppdcegpojmbaaGreatDoor
namespace Go.Proofs.YtnppdcegpojmbaaGreatDoor
open Go Go.RowKit
namespace Law
open Words
/-- Texts as cells. -/
def cellsT (l : List ByteArray) : List Value := l.map Value.string
theorem cellsT_at {l : List ByteArray} {i : Nat} {u : Value} (hi : i < l.length) (h : (cellsT l)[i]? = some u) : u = .string l[i] := by
  unfold cellsT at h
  rw [List.getElem?_map, List.getElem?_eq_getElem hi] at h
  simpa using h.symm
theorem cellsT_one (l : List ByteArray) : ∀ u ∈ cellsT l, u.oneCell' = true := by
  intro u hu
  obtain ⟨t, _, rfl⟩ := List.mem_map.1 hu
  rfl
theorem cellsT_append (a b : List ByteArray) : cellsT (a ++ b) = cellsT a ++ cellsT b := List.map_append
theorem cellsT_len (l : List ByteArray) : (cellsT l).length = l.length := by unfold cellsT; rw [List.length_map]
theorem reads_at {w : World} {B n : Nat} {A : Option Addr} {l : List ByteArray} (h : Reads w B 1 A n (cellsT l)) {i : Nat} (hi : i < l.length) : ∃ ad, A = some ad ∧ (ad.add i).block < B ∧ w.cell? (ad.add i) = some (.string l[i]) := by
  have hl : i < n := by have := h.1; rw [cellsT_len] at this; omega
  obtain ⟨ad, u, h1, h2, h3, h4⟩ := h.at_ hl
  rw [cellsT_at hi h3] at h4
  exact ⟨ad, h1, by rw [block_of_add]; exact h2, h4⟩
theorem reads_off {w w' : World} {B n : Nat} {A : Option Addr} {G : Nat → Prop} {l : List ByteArray} (h : Reads w B 1 A n (cellsT l)) (hw : B ≤ w.heap.size) (ho : Off G w w') (hG : ∀ b, b < B → ¬ G b) : Reads w' B 1 A n (cellsT l) :=
  h.keep fun p hp => ho.cell (by omega) (hG _ hp)
theorem row_texts {w : World} {base n : Nat} {v : Value} {l : List ByteArray} (h : w.ownsRow base 9 1 v n (cellsT l)) :
    ∃ A c, v = .slice A l.length c ∧ ∀ i (hi : i < l.length), ∃ ad, A = some ad ∧ base ≤ (ad.add i).block ∧ (ad.add i).block < w.heap.size ∧ w.cell? (ad.add i) = some (.string l[i]) := by
  have hn : l.length = n := by have := h.1; rw [cellsT_len] at this; omega
  subst hn
  have h0 := h
  obtain ⟨_, ⟨rfl, h1⟩ | ⟨g, cap, cur, rfl, hg, hb, _⟩⟩ := h
  · exact ⟨none, 0, by rw [h1], fun i hi => absurd hi (by omega)⟩
  · refine ⟨_, _, rfl, fun i hi => ?_⟩
    obtain ⟨ad, e1, e2, e3⟩ := reads_at (Reads.of_own h0) hi
    cases e1
    refine ⟨_, rfl, ?_, e2, e3⟩
    rw [block_of_add]
    exact hg
theorem str_info : (Tryz.prog.info? 9).map (fun i => (i.zero, i.size, i.bytes)) = some (some (.string ⟨#[]⟩), 1, 16) := by kernel_rfl
theorem info_parts' {o : Option TypeInfo} {z : Value} {n b : Nat} (h : o.map (fun i => (i.zero, i.size, i.bytes)) = some (some z, n, b)) : ∃ i, o = some i ∧ i.zero = some z ∧ i.size = n ∧ i.bytes = b := by
  cases o with
  | none => cases h
  | some i =>
    simp only [Option.map_some, Option.some.injEq, Prod.mk.injEq] at h
    exact ⟨i, rfl, h.1, h.2.1, h.2.2⟩
theorem str_back (t : ByteArray) : (⟨t.data.toList.toArray⟩ : ByteArray) = t := by cases t; simp
set_option maxHeartbeats 2000000 in
set_option maxRecDepth 100000 in
theorem undoes_walk (w : World) (pa pb pc : Option Addr) (la lb lc : List ByteArray) (ca cb cc : Nat) (ha : Reads w w.heap.size 1 pa la.length (cellsT la)) (hb : Reads w w.heap.size 1 pb lb.length (cellsT lb)) (hc : Reads w w.heap.size 1 pc lc.length (cellsT lc))
    (sa : ∀ t ∈ la, t.size ≤ 140737488355328) (sb : ∀ t ∈ lb, t.size ≤ 140737488355328) (sc : ∀ t ∈ lc, t.size ≤ 140737488355328)
    (za : la.length ≤ 140737488355328) (zb : lb.length ≤ 140737488355328) (zc : lc.length ≤ 140737488355328) (hG : Glob w.heap.size w) :
    Calls Tryz.prog 7 #[.slice pa la.length ca, .slice pb lb.length cb, .slice pc lc.length cc] w fun e w' => e = .returned (.bool true) ∧ Below w.heap.size w w' := by
  have HG := Lib.hid hG; clear hG
  have HA := Lib.hid ha; clear ha
  have HB := Lib.hid hb; clear hb
  have HC := Lib.hid hc; clear hc
  have SA := Lib.hid sa; clear sa
  have SB := Lib.hid sb; clear sb
  have SC := Lib.hid sc; clear sc
  obtain ⟨all, hall⟩ : ∃ all, all = la ++ lc := ⟨_, rfl⟩
  have hlal : all.length = la.length + lc.length := by rw [hall, List.length_append]
  have HALL := Lib.hid hall; clear hall
  have HLAL := Lib.hid hlal; clear hlal
  obtain ⟨i0, hi0, hz0, hz1, hz2⟩ := info_parts' str_info
  have I0 := Lib.hid hi0; clear hi0
  have Z0 := Lib.hid hz0; clear hz0
  have Z1 := Lib.hid hz1; clear hz1
  have Z2 := Lib.hid hz2; clear hz2
  go_enter Tryz.func7, Tryz.ntmps7
  go_wp2_with fail
  refine (shown_any w w.heap.size HG.out (Nat.le_refl _)).mono ?_
  rintro e w0 ⟨rfl, ho0⟩
  have HO0 := Lib.hid ho0; clear ho0
  go_wp2_with fail
  refine (DiskW.new_any w0 1000000 (by omega)).mono ?_
  rintro e w1 ⟨d, rfl, hdk, ho1⟩
  have HDK := Lib.hid hdk; clear hdk
  have HO1 := Lib.hid (HO0.out.trans ho1 (fun _ _ h => h.elim) : Off (fun b => w.heap.size ≤ b) w w1)
  have hle0 : w.heap.size ≤ w0.heap.size := HO0.out.size
  clear ho1 HO0
  go_wp2_with fail
  · go_ret
    exact ⟨rfl, below_of HO1.out⟩
  refine (Held.open_new (R := 1000000) w1 d w.heap.size _ HDK.out (by omega) (fun b hb => ⟨Nat.le_trans hle0 hb.1, hb.2⟩) (HG.out.off HO1.out (fun _ h => h)) HO1.out.size).mono ?_
  rintro e w2 ⟨lg, rfl, h2, ho2⟩
  have H2 := Lib.hid h2; clear h2
  have HO2 := Lib.hid (HO1.out.trans ho2 (fun b _ hb => Nat.le_trans hle0 hb.1) : Off (fun b => w.heap.size ≤ b) w w2)
  clear HO1 ho2 HDK hle0
  have hn40 : la.length + lb.length + lc.length ≤ 40 := by omega
  have hrd := fun (w' : World) (ho : Off None w2 w') => reads_off HA.out (Nat.le_refl _) (HO2.out.trans ho (fun _ _ h => h.elim)) (fun b hb hg => by omega)
  have HRA := Lib.hid hrd; clear hrd
  have hrd := fun (w' : World) (ho : Off None w2 w') => reads_off HC.out (Nat.le_refl _) (HO2.out.trans ho (fun _ _ h => h.elim)) (fun b hb hg => by omega)
  have HRC := Lib.hid hrd; clear hrd
  have hs0 := HO2.out.size
  go_wp2_with (first
    | (at_builtin
       refine wpList_append_any _ rfl (.tmp 55) (.tmp 56) _ rfl w2.heap.size 9 i0 _ 1 16 Tryz.underlying22 I0.out Z0.out Z1.out Z2.out rfl (by omega) (.slice (some ⟨w2.heap.size, 0, none⟩) 0 0) 0 [] rfl
         ⟨rfl, .inr ⟨w2.heap.size, 0, #[], rfl, Nat.le_refl _, Heap.alloc_new _ _, Nat.le_refl _, by decide, rfl, rfl⟩⟩ w.heap.size pa la.length ca (cellsT la) rfl (HRA.out _ ((Off.refl None w2).alloc _)) (cellsT_one la) (by unfold maxLen; omega) (by omega) (by rw [Heap.alloc_size]; omega) ?_
       intro v1 w3 hown1 hg1 hat1
       have ho3 : Off None w2 w3 := ((Off.refl None w2).alloc _).grown hg1 (fun k hk => .inr (by cases hk; exact Nat.le_refl _))
       have HO3 := Lib.hid ho3
       have HW1 := Lib.hid hown1
       have HT1 := Lib.hid hat1
       clear ho3 hown1 hg1 hat1)
    | (at_builtin
       refine wpList_append_any _ rfl (.tmp 57) (.tmp 58) _ rfl w2.heap.size 9 i0 _ 1 16 Tryz.underlying22 I0.out Z0.out Z1.out Z2.out rfl (by omega) v1 (0 + la.length) ([] ++ cellsT la) rfl
         HW1.out w.heap.size pc lc.length cc (cellsT lc) rfl (HRC.out _ HO3.out) (cellsT_one lc) (by unfold maxLen; omega) (by omega) HO3.out.size ?_
       intro v2 w4 hown2 hg2 hat2
       have ho4 : Off None w2 w4 := HO3.out.grown hg2 (fun k hk => by rcases HT1.out with e | e <;> rw [e] at hk <;> cases hk <;> exact .inr (by first | exact Nat.le_refl _ | (have := ((Off.refl None w2).alloc (Obj.cells #[] 9)).size; exact this)))
       have HO4 := Lib.hid ho4
       rw [List.nil_append, ← cellsT_append, ← HALL.out] at hown2
       obtain ⟨pA, cA, rfl, hal⟩ := row_texts hown2
       have HAL := Lib.hid hal
       clear ho4 hown2 hg2 hat2 hal)
    | fail)
  have hH4 := H2.out.keep (A' := fun b => w2.heap.size ≤ b ∧ b < w4.heap.size) HO4.out (fun b hb => .inr hb)
  have H4 := Lib.hid hH4; clear hH4 H2
  have HO4w := Lib.hid (HO2.out.trans HO4.out (fun _ _ h => h.elim) : Off (fun b => w.heap.size ≤ b) w w4)
  clear HRA HRC
  have tr : ∀ (wr : World), Off (Rest w.heap.size (fun b => w2.heap.size ≤ b ∧ b < w4.heap.size)) w4 wr → Off (fun b => w.heap.size ≤ b) w wr := fun _ h => HO4w.out.trans h (fun _ _ h => h.1)
  have TR := Lib.hid tr; clear tr
  have hrd := fun (wr : World) (ho : Off (fun b => w.heap.size ≤ b) w wr) => (⟨reads_off HA.out (Nat.le_refl _) ho (fun b hb hg => by omega), reads_off HB.out (Nat.le_refl _) ho (fun b hb hg => by omega), reads_off HC.out (Nat.le_refl _) ho (fun b hb hg => by omega)⟩ : Reads wr w.heap.size 1 pa la.length (cellsT la) ∧ Reads wr w.heap.size 1 pb lb.length (cellsT lb) ∧ Reads wr w.heap.size 1 pc lc.length (cellsT lc))
  have HRD := Lib.hid hrd; clear hrd
  obtain ⟨A, hA⟩ : ∃ A : Nat → Prop, A = fun b => w2.heap.size ≤ b ∧ b < w4.heap.size := ⟨_, rfl⟩
  rw [← hA] at H4 TR
  have HAA := Lib.hid hA; clear hA
  go_wp2_with fail
  go_loopw [12] (fun i wr => ∃ k N : Nat, k ≤ la.length ∧ i = .int .i64 k ∧ N ≤ 2 + k ∧ Held 1000000 w.heap.size N A wr lg d 0 1 [] ⟨1, keptL (la.take k)⟩ 0 ∧ Off (Rest w.heap.size A) w4 wr) (fun i _ => la.length - (intOf i).toNat)
  case atStart => exact ⟨0, 2, Nat.zero_le _, rfl, by omega, by rw [List.take_zero]; exact H4.out, Off.refl _ _⟩
  case round =>
    obtain ⟨k, N, hk, rfl, hN, hh, ho⟩ := hrel
    have HH := Lib.hid hh; clear hh H4
    have HO := Lib.hid ho; clear ho
    by_cases hlt : k < la.length
    · obtain ⟨ad, hpa, _, hcl⟩ := reads_at (HRD.out _ (TR.out _ HO.out)).1 hlt
      subst hpa
      have hi0 : (0 : Int) ≤ (k : Int) := by omega
      have hi1 : (k : Int) < (la.length : Int) := by omega
      have hll := keptL_len (la.take k)
      have hlk : (la.take k).length ≤ k := List.length_take_le _ _
      have hap := append_kept HH.out la[k] (SA.out _ (List.getElem_mem hlt)) (keptL_small _) (by omega) (by omega)
      rw [← keptL_take la hlt] at hap
      have HAP := Lib.hid hap
      clear hap hll hlk
      go_wp2_with fail
      refine HAP.out.mono ?_
      rintro e w5 ⟨q, er, N', rfl, hN', h5, ho5⟩
      have H5 := Lib.hid h5; clear h5
      have HO5 := Lib.hid (HO.out.trans ho5 (fun _ _ h => h)); clear ho5
      go_wp2_with fail
      case roundEnd => exact ⟨⟨k + 1, N', hlt, by push_cast; rfl, by omega, H5.out, HO5.out⟩, by simp [intOf]; omega⟩
    · obtain rfl : k = la.length := by omega
      have hi1 : ¬ (la.length : Int) < (la.length : Int) := by omega
      have hh2 := HH.out
      rw [List.take_length] at hh2
      have HH2 := Lib.hid hh2; clear hh2 HH
      go_wp2_with fail
      refine HH2.out.sync.mono ?_
      rintro e w5 ⟨rfl, h5, ho5⟩
      obtain ⟨m, hm⟩ : ∃ m, m = (keptL la).length := ⟨_, rfl⟩
      have hml : m ≤ la.length := by rw [hm]; exact keptL_len la
      have h5' : Held 1000000 w.heap.size N A w5 lg d 0 1 [] ⟨1, keptL la⟩ m := by rw [hm]; exact h5
      have HM := Lib.hid hm; clear hm
      have H5 := Lib.hid h5'; clear h5 h5'
      have HO5 := Lib.hid (HO.out.trans ho5 (fun _ _ h => h)); clear ho5 HO HH2
      obtain ⟨sum, hsum⟩ : ∃ sum, sum = GoodLog.sum ([] ++ [(⟨1, keptL la⟩ : Grp)]) := ⟨_, rfl⟩
      have HSUM := Lib.hid hsum; clear hsum
      go_wp2_with fail
      have hby := H5.out.bytes
      rw [← HSUM.out] at hby
      refine hby.mono ?_
      rintro e w6 ⟨rfl, ho6⟩
      have H6 := Lib.hid (H5.out.quiet ho6)
      have HO6 := Lib.hid (HO5.out.trans ho6 (fun _ _ h => h.elim)); clear ho6 hby H5 HO5
      go_wp2_with fail
      go_loopw [14] (fun i wr => ∃ k N2 : Nat, k ≤ lb.length ∧ i = .int .i64 k ∧ N2 ≤ N + k ∧ Held 1000000 w.heap.size N2 A wr lg d 0 1 [] ⟨1, keptL la ++ keptL (lb.take k)⟩ m ∧ Off (Rest w.heap.size A) w4 wr) (fun i _ => lb.length - (intOf i).toNat)
      case atStart => exact ⟨0, N, Nat.zero_le _, rfl, by omega, by rw [List.take_zero, show keptL [] = [] from rfl, List.append_nil]; exact H6.out, HO6.out⟩
      case round =>
        obtain ⟨k, N2, hk, rfl, hN2, hh, ho⟩ := hrel
        have HH := Lib.hid hh; clear hh H6
        have HO := Lib.hid ho; clear ho HO6
        by_cases hlt : k < lb.length
        · obtain ⟨ad, hpa, _, hcl⟩ := reads_at (HRD.out _ (TR.out _ HO.out)).2.1 hlt
          subst hpa
          have hi0 : (0 : Int) ≤ (k : Int) := by omega
          have hi1 : (k : Int) < (lb.length : Int) := by omega
          have hap := append_kept HH.out lb[k] (SB.out _ (List.getElem_mem hlt)) (by rw [← keptL_append]; exact keptL_small _) (by rw [← keptL_append]; have := keptL_len (la ++ lb.take k); rw [List.length_append, List.length_take] at this; omega) (by omega)
          rw [List.append_assoc, ← keptL_take lb hlt] at hap
          have HAP := Lib.hid hap
          clear hap
          go_wp2_with fail
          refine HAP.out.mono ?_
          rintro e w5 ⟨q, er, N', rfl, hN', h5, ho5⟩
          have H5 := Lib.hid h5; clear h5
          have HO5 := Lib.hid (HO.out.trans ho5 (fun _ _ h => h)); clear ho5
          go_wp2_with fail
          case roundEnd => exact ⟨⟨k + 1, N', hlt, by push_cast; rfl, by omega, H5.out, HO5.out⟩, by simp [intOf]; omega⟩
        · obtain rfl : k = lb.length := by omega
          have hi1 : ¬ (lb.length : Int) < (lb.length : Int) := by omega
          have hu := HH.out.undo (by omega)
          rw [show (⟨(⟨1, keptL la ++ keptL (lb.take lb.length)⟩ : Grp).first, (⟨1, keptL la ++ keptL (lb.take lb.length)⟩ : Grp).bodies.take m⟩ : Grp) = ⟨1, keptL la⟩ by rw [HM.out]; show (⟨1, (keptL la ++ _).take (keptL la).length⟩ : Grp) = _; rw [List.take_left]] at hu
          have HU := Lib.hid hu; clear hu HH
          go_wp2_with fail
          refine HU.out.mono ?_
          rintro e w7 ⟨rfl, h7, ho7⟩
          have H7 := Lib.hid h7; clear h7
          have HO7 := Lib.hid (HO.out.trans ho7 (fun _ _ h => h)); clear ho7 HO HU
          go_wp2_with fail
          have hby := H7.out.bytes
          rw [← HSUM.out] at hby
          refine hby.mono ?_
          rintro e w8 ⟨rfl, ho8⟩
          have H8 := Lib.hid (H7.out.quiet ho8)
          have HO8 := Lib.hid (HO7.out.trans ho8 (fun _ _ h => h.elim)); clear ho8 hby H7 HO7
          go_wp2_with fail
          have hby := H8.out.used
          rw [← HSUM.out] at hby
          refine hby.mono ?_
          rintro e w9 ⟨rfl, ho9⟩
          have H9 := Lib.hid (H8.out.quiet ho9)
          have HO9 := Lib.hid (HO8.out.trans ho9 (fun _ _ h => h.elim)); clear ho9 hby H8 HO8
          go_wp2_with fail
          have hby := H9.out.next
          rw [show (⟨1, keptL la⟩ : Grp).end_ = 1 + m by rw [HM.out]; rfl] at hby
          refine hby.mono ?_
          rintro e w10 ⟨rfl, ho10⟩
          have H10 := Lib.hid (H9.out.quiet ho10)
          have HO10 := Lib.hid (HO9.out.trans ho10 (fun _ _ h => h.elim)); clear ho10 hby H9 HO9
          go_wp2_with fail
          have hby := H10.out.durable
          refine hby.mono ?_
          rintro e w11 ⟨rfl, ho11⟩
          have H11 := Lib.hid (H10.out.quiet ho11)
          have HO11 := Lib.hid (HO10.out.trans ho11 (fun _ _ h => h.elim)); clear ho11 hby H10 HO10
          go_wp2_with fail
          go_loopw [15] (fun i wr => ∃ k N3 : Nat, k ≤ lc.length ∧ i = .int .i64 k ∧ N3 ≤ N2 + 1 + k ∧ Held 1000000 w.heap.size N3 A wr lg d 0 1 [] ⟨1, keptL la ++ keptL (lc.take k)⟩ m ∧ Off (Rest w.heap.size A) w4 wr) (fun i _ => lc.length - (intOf i).toNat)
          case atStart => exact ⟨0, N2 + 1, Nat.zero_le _, rfl, by omega, by rw [List.take_zero, show keptL [] = [] from rfl, List.append_nil]; exact H11.out, HO11.out⟩
          case round =>
            obtain ⟨k, N3, hk, rfl, hN3, hh, ho⟩ := hrel
            have HH := Lib.hid hh; clear hh H11
            have HO := Lib.hid ho; clear ho HO11
            by_cases hlt : k < lc.length
            · obtain ⟨ad, hpa, _, hcl⟩ := reads_at (HRD.out _ (TR.out _ HO.out)).2.2 hlt
              subst hpa
              have hi0 : (0 : Int) ≤ (k : Int) := by omega
              have hi1 : (k : Int) < (lc.length : Int) := by omega
              have hap := append_kept HH.out lc[k] (SC.out _ (List.getElem_mem hlt)) (by rw [← keptL_append]; exact keptL_small _) (by rw [← keptL_append]; have := keptL_len (la ++ lc.take k); rw [List.length_append, List.length_take] at this; omega) (by omega)
              rw [List.append_assoc, ← keptL_take lc hlt] at hap
              have HAP := Lib.hid hap
              clear hap
              go_wp2_with fail
              refine HAP.out.mono ?_
              rintro e w12 ⟨q, er, N', rfl, hN', h12, ho12⟩
              have H12 := Lib.hid h12; clear h12
              have HO12 := Lib.hid (HO.out.trans ho12 (fun _ _ h => h)); clear ho12
              go_wp2_with fail
              case roundEnd => exact ⟨⟨k + 1, N', hlt, by push_cast; rfl, by omega, H12.out, HO12.out⟩, by simp [intOf]; omega⟩
            · obtain rfl : k = lc.length := by omega
              have hi1 : ¬ (lc.length : Int) < (lc.length : Int) := by omega
              have hh2 := HH.out
              rw [List.take_length, ← keptL_append, ← HALL.out] at hh2
              have HH2 := Lib.hid hh2; clear hh2 HH
              have hlal := HLAL.out
              go_wp2_with fail
              go_loopw [16, 17] (fun v i wr => ∃ k : Nat, k ≤ all.length ∧ i = .int .i64 k ∧ v = .int .u64 ((1 + (keptL (all.take k)).length : Nat) : Int) ∧ Off (Rest w.heap.size A) w4 wr ∧ Held 1000000 w.heap.size N3 A wr lg d 0 1 [] ⟨1, keptL all⟩ m) (fun _ i _ => all.length - (intOf i).toNat)
              case atStart => exact ⟨0, Nat.zero_le _, rfl, rfl, HO.out, HH2.out⟩
              case round =>
                obtain ⟨i, hi, rfl, rfl, ho, hh⟩ := hrel
                have HO13 := Lib.hid ho; clear ho HO
                have H13 := Lib.hid hh; clear hh HH2
                obtain ⟨q, hq⟩ : ∃ q, q = (keptL (all.take i)).length := ⟨_, rfl⟩
                have hqi : q ≤ i := by rw [hq]; exact Nat.le_trans (keptL_len _) (List.length_take_le _ _)
                rw [← hq]
                have HQ := Lib.hid hq; clear hq
                by_cases hlt : i < all.length
                · obtain ⟨ad, hpa, hb1, hb2, hc4⟩ := HAL.out i hlt
                  subst hpa
                  have hcl := HO13.out.keep hc4 (show ¬ Rest w.heap.size A _ from fun h => h.2 (by rw [HAA.out]; exact ⟨hb1, hb2⟩))
                  have hi0 : (0 : Int) ≤ (i : Int) := by omega
                  have hi1 : (i : Int) < (la.length : Int) + (lc.length : Int) := by omega
                  clear hc4
                  by_cases hsz : all[i].size ≤ 2000
                  · have hg := keptL_at all hlt hsz
                    rw [← HQ.out] at hg
                    have hgs := H13.out.get_some (i := q) (b := all[i].data.toList) (by simpa using hg) (by omega)
                    rw [str_back] at hgs
                    have HGS := Lib.hid hgs; clear hgs hg
                    have hn1 : (keptL (all.take (i + 1))).length = q + 1 := by rw [keptL_take all hlt, List.length_append, ← HQ.out, keptL_short hsz]; rfl
                    have HN1 := Lib.hid hn1; clear hn1
                    have hwq : IntKind.u64.wrap ((1 + (q : Int)) + 1) = ((1 + (q + 1) : Nat) : Int) := by simp [IntKind.wrap, IntKind.bits, IntKind.signed]; omega
                    have HWQ := Lib.hid hwq; clear hwq
                    go_wp2_with fail
                    refine HGS.out.mono ?_
                    rintro e w14 ⟨rfl, ho14⟩
                    have hcl2 := ho14.keep hcl (fun h => h)
                    have HO14 := Lib.hid (HO13.out.trans ho14 (fun _ _ h => h.elim))
                    have H14 := Lib.hid (H13.out.quiet ho14)
                    clear ho14
                    go_wp2_with fail
                    case roundEnd => exact ⟨⟨i + 1, hlt, by push_cast; rfl, by rw [HN1.out]; exact congrArg (Value.int IntKind.u64) (by push_cast; omega), HO14.out, H14.out⟩, by simp [intOf]; omega⟩
                  · have hn1 : (keptL (all.take (i + 1))).length = q := by rw [keptL_take all hlt, List.length_append, ← HQ.out, keptL_long (by omega)]; rfl
                    have HN1 := Lib.hid hn1; clear hn1
                    go_wp2_with fail
                    case roundEnd => exact ⟨⟨i + 1, hlt, by push_cast; rfl, by rw [HN1.out], HO13.out, H13.out⟩, by simp [intOf]; omega⟩
                · obtain rfl : i = all.length := by omega
                  have hi1 : ¬ (all.length : Int) < (la.length : Int) + (lc.length : Int) := by omega
                  have hq2 := HQ.out
                  rw [List.take_length] at hq2
                  have hby := H13.out.next
                  rw [show (⟨1, keptL all⟩ : Grp).end_ = 1 + q by rw [hq2]; rfl] at hby
                  have HBY := Lib.hid hby; clear hby hq2
                  go_wp2_with fail
                  refine HBY.out.mono ?_
                  rintro e w14 ⟨rfl, ho14⟩
                  have HO14 := Lib.hid (TR.out _ (HO13.out.trans ho14 (fun _ _ h => h.elim)))
                  clear ho14
                  go_wp2_with fail
                  go_ret
                  exact ⟨rfl, below_of HO14.out⟩
end Law
end Go.Proofs.YtnppdcegpojmbaaGreatDoor
