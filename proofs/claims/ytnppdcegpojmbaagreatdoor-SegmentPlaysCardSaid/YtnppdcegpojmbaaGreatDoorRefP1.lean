/- The reference's log: the walks of Sync and Append. -/
import Derived.Test.YtnppdcegpojmbaaGreatDoorRefP0
namespace Go.Proofs.YtnppdcegpojmbaaGreatDoor
open Go Go.RowKit Go.Sort
theorem row_empty {w : World} {base g : Nat} {e : TypeId} (h : w.heap[g]? = some (.cells #[] e (0, 0))) (hb : base ≤ g) : w.ownsRow base e 1 (.slice (some ⟨g, 0, none⟩) 0 0) 0 [] :=
  ⟨rfl, .inr ⟨g, 0, #[], rfl, hb, h, Nat.le_refl _, Nat.zero_le _, rfl, rfl⟩⟩
theorem reads_texts {A : Nat → Prop} {w : World} {p : Option Addr} {l : List ByteArray} (h : Lies A w p l) : Words.Reads w w.heap.size 1 p l.length (textCells l) := by
  refine ⟨by unfold textCells; simp, fun hn => ?_⟩
  obtain ⟨g, hp, _, hg, _⟩ := h 0 hn
  refine ⟨⟨g, 0, none⟩, hp, hg, fun j u hu => ?_⟩
  have hj : j < l.length := by have := (List.getElem?_eq_some_iff.1 hu).1; unfold textCells at this; simpa using this
  obtain ⟨g2, hp2, _, _, hc⟩ := h j hj
  rw [hp] at hp2
  obtain rfl : g = g2 := by cases hp2; rfl
  rw [text_cell hj] at hu
  cases hu
  rw [addr_add, Nat.zero_add]
  exact hc
theorem step_texts {P : Program} {ops : Array Oper} {o : Oper} {a : Act} {K : Act → World → Prop} {Q : Exit → Act → World → Prop} {E' : Prop} {W : World} {st e : TypeId} (hgd : o.guard = none) (s x : Operand) (ho : o.op = .call { callee := .builtin .append, args := #[s, x], argTypes := #[st, st] }) (E : ElemOk P st e 1 16)
    (base : Nat) (v : Value) (n : Nat) (xs : List Value) (hs : a.eval s = v) (hown : W.ownsRow base e 1 v n xs) (A : Nat → Prop) (p : Option Addr) (m c : Nat) (l : List ByteArray) (hl : l.length = m) (hx : a.eval x = .slice p m c) (hr : Lies A W p l) (hn : n ≤ 4000000000000) (hm : m ≤ 4000000000000) (hbase : base ≤ W.heap.size)
    (h : ∀ v' w', w'.ownsRow base e 1 v' (n + m) (xs ++ textCells l) → W.grownBy w' v.ownBlock → (v'.ownBlock = v.ownBlock ∨ v'.ownBlock = some W.heap.size) → K (a.put o.dst v') w') :
    if Region.wanted o (yielded ops a.tmps) = true then Oper.wp P o a W K Q else E' := by
  obtain ⟨i, z, hi, hz, h2, h3, h4⟩ := E.info
  subst hl
  refine Words.step_append_any (E := E') W hgd s x st ho base e i z 1 16 E.ht hi hz h2 h3 h4 E.pos v n xs hs hown W.heap.size p l.length c (textCells l) hx (reads_texts hr) ?_ (by unfold maxLen; omega) (by omega) hbase h
  intro u hu
  unfold textCells at hu
  obtain ⟨t, _, rfl⟩ := List.mem_map.1 hu
  rfl
theorem off_empty {w0 W w7 : World} {g : Nat} (h0 : Off None w0 W) (hg : W.grownBy w7 (Value.slice (some ⟨g, 0, none⟩) 0 0).ownBlock) (hb : w0.heap.size ≤ g) : Off None w0 w7 :=
  h0.grown hg (fun k hk => .inr (by have e : g = k := by first | (cases hk; rfl) | (simp [Value.ownBlock] at hk; exact hk)
                                    omega))
theorem grown_new2 {w6 w7 : World} {A B : Obj} {row : Option Nat} (hg : ((w6.alloc A).alloc B).drew.grownBy w7 row) (hr : row = some w6.heap.size) : w7.heap[w6.heap.size + 1]? = some B := by
  have h := Heap.alloc_new (w6.alloc A) B
  rw [Heap.alloc_size] at h
  exact Heap.grown hg (show ((w6.alloc A).alloc B).drew.heap[w6.heap.size + 1]? = some B from h) (by rw [hr]; intro e; injection e with e; omega)
theorem grown_new1 {w6 w7 : World} {A B : Obj} {row : Option Nat} (hg : ((w6.alloc A).alloc B).drew.grownBy w7 row) (hr : row = some (w6.heap.size + 1)) : w7.heap[w6.heap.size]? = some A :=
  Heap.grown hg (show ((w6.alloc A).alloc B).drew.heap[w6.heap.size]? = some A from Heap.alloc_old (Heap.alloc_new w6 A) B) (by rw [hr]; intro e; injection e with e; omega)
/-- What Append leaves of the log. -/
theorem append_end {w w6 w8 : World} {q r synced k gl ox cl b u z c8 : Nat} {rows : List RRow} {lv : Value} {A F Gr : Nat → Prop} {X1 : RefV} {a : RSeg} {body sb : ByteArray} {p8 : Option Addr} (h6 : RStoreAt w6 q r rows synced lv A X1 Gr (Grow F w w6)) (hw : Off F w w6) (ho8 : Off None w6 w8)
    (hrow8 : w8.ownsRow w6.heap.size 9 1 (.slice p8 (b + 1) c8) (b + 1) (textCells a.bodies ++ textCells [body])) (hk : k < rows.length) (hlv : lv = .slice (some ⟨gl, ox, none⟩) rows.length cl) :
    RStoreAt ((((w8.setCell ⟨gl, ox + k * 4, none⟩ (.int .u64 u)).setCell ⟨gl, ox + k * 4 + 1, none⟩ (.int .i64 ((b : Int) + 1))).setCell ⟨gl, ox + k * 4 + 2, none⟩ (.int .i64 ((z : Int) + (sb.size : Int)))).setCell ⟨gl, ox + k * 4 + 3, none⟩ (.slice p8 (b + 1) c8)) q r
      (rows.set k (⟨u, z + sb.size, a.bodies ++ [body]⟩, .slice p8 (b + 1) c8)) synced lv (fun x => A x ∨ (Value.slice p8 (b + 1) c8).ownBlock = some x) X1 Gr
      (Grow F w ((((w8.setCell ⟨gl, ox + k * 4, none⟩ (.int .u64 u)).setCell ⟨gl, ox + k * 4 + 1, none⟩ (.int .i64 ((b : Int) + 1))).setCell ⟨gl, ox + k * 4 + 2, none⟩ (.int .i64 ((z : Int) + (sb.size : Int)))).setCell ⟨gl, ox + k * 4 + 3, none⟩ (.slice p8 (b + 1) c8))) ∧
    Off F w ((((w8.setCell ⟨gl, ox + k * 4, none⟩ (.int .u64 u)).setCell ⟨gl, ox + k * 4 + 1, none⟩ (.int .i64 ((b : Int) + 1))).setCell ⟨gl, ox + k * 4 + 2, none⟩ (.int .i64 ((z : Int) + (sb.size : Int)))).setCell ⟨gl, ox + k * 4 + 3, none⟩ (.slice p8 (b + 1) c8)) := by
  have htc : textCells a.bodies ++ textCells [body] = textCells (a.bodies ++ [body]) := by unfold textCells; rw [List.map_append]
  rw [htc] at hrow8
  obtain ⟨l1, l2, l3, l4⟩ := row_lies hrow8
  have hs6 := hw.size
  have hs8 := ho8.size
  have hlen : (a.bodies ++ [body]).length = b + 1 := l3.symm
  have h8 := (h6.quiet ho8).mono (G := Grow F w w8) (fun x _ hx => hx.imp id (fun h => ⟨h.1, by omega⟩))
  have h8 := h8.moreA (B := fun x => (Value.slice p8 (b + 1) c8).ownBlock = some x) (fun x hx => by
    have hx1 := (hrow8.lt x hx).1
    have hx2 := (hrow8.lt x hx).2
    refine ⟨fun e => ?_, fun e => ?_, fun e => ?_, hx2, .inr ⟨by omega, hx2⟩⟩
    · have := (h6.inR x e).2
      omega
    · have := h6.qlt
      omega
    · have := h6.llt e
      omega)
  obtain ⟨h9, ho9⟩ := h8.setRow hk hlv (⟨u, z + sb.size, a.bodies ++ [body]⟩, .slice p8 (b + 1) c8) ⟨p8, c8, by rw [hlen], l1, l2, l4.more (fun _ _ h => .inr h)⟩
  have hce : rsegCells ((⟨u, z + sb.size, a.bodies ++ [body]⟩ : RSeg), Value.slice p8 (b + 1) c8) = [.int .u64 u, .int .i64 ((b : Int) + 1), .int .i64 ((z : Int) + (sb.size : Int)), .slice p8 (b + 1) c8] := by
    unfold rsegCells
    dsimp only
    rw [hlen]
    push_cast
    rfl
  rw [hce] at h9 ho9
  obtain ⟨w9, hw9⟩ : ∃ w9, w9 = ((((w8.setCell ⟨gl, ox + k * 4, none⟩ (.int .u64 u)).setCell ⟨gl, ox + k * 4 + 1, none⟩ (.int .i64 ((b : Int) + 1))).setCell ⟨gl, ox + k * 4 + 2, none⟩ (.int .i64 ((z : Int) + (sb.size : Int)))).setCell ⟨gl, ox + k * 4 + 3, none⟩ (.slice p8 (b + 1) c8)) := ⟨_, rfl⟩
  have h9 : RStoreAt w9 q r (rows.set k (⟨u, z + sb.size, a.bodies ++ [body]⟩, .slice p8 (b + 1) c8)) synced lv (fun x => A x ∨ (Value.slice p8 (b + 1) c8).ownBlock = some x) X1 Gr (Grow F w w8) := by rw [hw9]; exact h9
  have ho9 : Off (Grow F w w8) w8 w9 := by rw [hw9]; exact ho9
  have hs9 : w9.heap.size = w8.heap.size := by rw [hw9, Heap.set_size, Heap.set_size, Heap.set_size, Heap.set_size]
  rw [← hw9]
  exact ⟨h9.mono (fun x _ hx => hx.imp id (fun h => ⟨h.1, by omega⟩)), (hw.trans ho8 (fun _ _ h => h.elim)).trans ho9 (fun x hx h => h.elim id (fun h => by omega))⟩
namespace RefL
set_option maxHeartbeats 1000000 in
set_option maxRecDepth 100000 in
theorem sync_any (w : World) (q r synced k : Nat) (rows : List RRow) (lv : Value) (A : Nat → Prop) (X : RefV) (Fr F : Nat → Prop) (h : RStoreAt w q r rows synced lv A X Fr F) (hn : rows.length = k + 1) (a : RSeg) (ha : (rows[k]'(by omega)).1 = a) (hs : a.end_ ≤ 2000000000001) (hsy : synced ≤ a.bodies.length) :
    Calls Tryz.prog 85 #[.pointer (some ⟨q, 0, none⟩)] w fun e w' => e = .returned (.int .i64 (X.lsync a synced).2.2) ∧ Off F w w' ∧ ∃ Fr', RStoreAt w' q r rows (X.lsync a synced).2.1 lv A (X.lsync a synced).1 Fr' (Grow F w w') := by
  have H := Lib.hid h; clear h
  obtain ⟨a2, p, c, ha2, hx2, _, _, _, hagg⟩ := last_form H.out.pre hn
  rw [ha] at ha2
  subst ha2
  have hlast := fun W (hW : Off None w W) => last_any W q r synced k rows lv A (H.out.quiet hW).pre hn
  rw [hagg] at hlast
  have hnext := fun W (hW : Off None w W) => next_any W q r synced k rows lv A (H.out.quiet hW).pre hn (by rw [ha]; omega)
  have hdur := fun W (hW : Off None w W) => durable_any W q r synced k rows lv A (H.out.quiet hW).pre hn (by rw [ha]; unfold RSeg.end_ at hs; omega)
  rw [ha] at hnext hdur
  obtain ⟨u, hu⟩ : ∃ u, u = a.first := ⟨_, rfl⟩
  obtain ⟨b, hb⟩ : ∃ b, b = a.bodies.length := ⟨_, rfl⟩
  obtain ⟨z, hz⟩ : ∃ z, z = a.size := ⟨_, rfl⟩
  obtain ⟨en, hen⟩ : ∃ en, en = a.end_ := ⟨_, rfl⟩
  rw [← hu, ← hb, ← hz] at hlast
  rw [← hen] at hnext hs
  rw [← hu] at hdur
  rw [← hb] at hsy
  have hfe : en = u + b := by rw [hen, hu, hb]; rfl
  have HL := Lib.hid hlast; have HNX := Lib.hid hnext; have HDU := Lib.hid hdur
  have HU := Lib.hid hu; have HB := Lib.hid hb; have HEN := Lib.hid hen; have HLA := Lib.hid ha
  clear hlast hnext hdur hagg ha hx2 hu hb hz hen
  have hF0 := fun w' => rfield0 w' u b z p b c
  have hF1 := fun w' => rfield1 w' u b z p b c
  have p0 : w.cell? ⟨q, 0, none⟩ = some (.pointer (some ⟨r, 0, none⟩)) := Heap.cell H.out.pre.core 0
  go_enter Tryz.func85, Tryz.ntmps85
  go_wp2_with fail
  refine (HDU.out w (Off.refl _ _)).mono ?_
  rintro e w1 ⟨rfl, ho1⟩
  have HO1 := Lib.hid ho1; clear ho1
  go_wp2_with fail
  refine (HNX.out w1 HO1.out).mono ?_
  rintro e w2 ⟨rfl, ho2⟩
  have HO2 := Lib.hid (HO1.out.trans ho2 (fun _ _ h => h)); clear ho2 HO1
  have p2 := HO2.out.keep p0 (fun h => h)
  by_cases he : u + synced = en
  · have hres : X.lsync a synced = (X, synced, 0) := by unfold RefV.lsync; rw [if_pos (by rw [← HU.out, ← HEN.out]; exact he)]
    have HRES := Lib.hid hres; clear hres
    have t1 : (((u + synced : Nat) : Int) == (en : Int)) = true := by rw [beq_iff_eq]; omega
    go_wp2_with fail
    go_ret
    rw [HRES.out]
    exact ⟨rfl, HO2.out.mono (fun _ _ h => h.elim), _, (H.out.quiet HO2.out).mono (fun _ _ h => .inl h)⟩
  · have t1 : (((u + synced : Nat) : Int) == (en : Int)) = false := by rw [beq_eq_false_iff_ne]; omega
    obtain ⟨X1, er, hsc⟩ : ∃ X1 er, X.sync (Seg.nameB u) = (X1, er) := ⟨_, _, rfl⟩
    have hres : X.lsync a synced = if er = 0 then (X1, b, 0) else (X1, synced, er) := by
      unfold RefV.lsync
      rw [if_neg (by rw [← HU.out, ← HEN.out]; exact he), ← HU.out, hsc, ← HB.out]
    have hdk := fun W (hW : Off None w W) => RefW.sync_any W r X Fr (H.out.quiet hW).disk (Seg.nameB u)
    rw [hsc] at hdk
    have HDK := Lib.hid hdk; have HRES := Lib.hid hres; have HNM := Lib.hid (fun W => name_any W u (by omega))
    clear hdk hres hsc
    have hsl := H.out.sepQ
    go_wp2_with fail
    go_region_held3 (fun W => W.cell? ⟨q, 0, none⟩ = some (.pointer (some ⟨r, 0, none⟩)))
      (first | exact p2 | exact k3 | exact k4 | exact k5)
      (first
        | (go_at_call 116; refine (HL.out _ (HO2.out.drew)).mono ?_; rintro e w3 ⟨rfl, ho3⟩; have ho3 := (HO2.out.drew).trans ho3 (fun _ _ h => h); have k3 : w3.cell? ⟨q, 0, none⟩ = some (.pointer (some ⟨r, 0, none⟩)) := ho3.keep p0 (fun h => h))
        | (go_at_call 112; refine (HNM.out _).mono ?_; rintro e w4 ⟨rfl, ho4⟩; have ho4 := ho3.trans ho4 (fun _ _ h => h); have k4 : w4.cell? ⟨q, 0, none⟩ = some (.pointer (some ⟨r, 0, none⟩)) := ho4.keep p0 (fun h => h))
        | (go_at_call 115; refine (HDK.out w4 ho4).mono ?_; rintro e w5 ⟨rfl, hd5, ho5⟩; have k5 : w5.cell? ⟨q, 0, none⟩ = some (.pointer (some ⟨r, 0, none⟩)) := ho5.keep k4 hsl))
    have h5 := ((H.out.quiet ho4).turned hd5 ho5).mono (G := Grow F w w5) (fun b _ hb => hb.imp id (fun x => ⟨Nat.le_trans ho4.size x.1, x.2⟩))
    have hof5 : Off F w w5 := (ho4.mono (fun _ _ h => h.elim) : Off F w w4).trans ((H.out.quiet ho4).off_disk ho5) (fun _ _ h => h)
    have H5 := Lib.hid h5; have HO5 := Lib.hid hof5
    clear h5 hof5 hd5 ho5 ho4 ho3 k3 k4 k5 p2
    by_cases hee : er = 0
    · subst hee
      have hrs := HRES.out
      rw [if_pos rfl] at hrs
      have HRS := Lib.hid hrs; clear hrs HRES
      have hl5 := last_any w5 q r synced k rows lv A H5.out.pre hn
      obtain ⟨a3, p3, c3, ha3, hx3, _, _, _, hagg3⟩ := last_form H5.out.pre hn
      rw [hagg3] at hl5
      have hab : a3.bodies.length = b := by rw [← ha3, HB.out, HLA.out]
      rw [hab] at hl5
      have hG1 := fun w' => rfield1 w' a3.first b a3.size p3 b c3
      have HL5 := Lib.hid hl5
      clear hl5 ha3 hx3 hagg3 hab
      have q2 : w5.cell? ⟨q, 2, none⟩ = some (.int .i64 synced) := Heap.cell H5.out.pre.core 2
      go_wp2_with fail
      refine HL5.out.mono ?_
      rintro e w6 ⟨rfl, ho6⟩
      have H6 := Lib.hid (H5.out.quiet ho6); have HO6 := Lib.hid (HO5.out.trans ho6 (fun _ _ h => h.elim))
      clear ho6 HL5 q2
      have q2 : w6.cell? ⟨q, 2, none⟩ = some (.int .i64 synced) := Heap.cell H6.out.pre.core 2
      have f2 : w6.frozen? ⟨q, 2, none⟩ = false := Heap.frozen H6.out.pre.core 2
      have hlz : q < w6.heap.size := Heap.lt H6.out.pre.core
      go_wp2_with fail
      go_ret
      rw [HRS.out]
      have h7 := H6.out.setSynced b
      have ho7 := H6.out.off_own ((Off.refl (Only q) w6).set 2 (.int .i64 b))
      have hs5 := HO5.out.size; have hs6 := HO6.out.size
      have hss : (w6.setCell ⟨q, 2, none⟩ (.int .i64 b)).heap.size = w6.heap.size := Heap.set_size _ _
      refine ⟨rfl, HO6.out.trans ho7 (fun b hb h => h.elim id (fun h => by omega)), _, h7.mono (fun b hb h => h.imp id (fun h => ⟨h.1, hb⟩))⟩
    · have hrs := HRES.out
      rw [if_neg hee] at hrs
      have HRS := Lib.hid hrs; clear hrs HRES
      have z1 : (er == 0) = false := by rw [beq_eq_false_iff_ne]; exact hee
      go_wp2_with fail
      go_ret
      rw [HRS.out]
      exact ⟨rfl, HO5.out, _, H5.out⟩
set_option maxHeartbeats 8000000 in
set_option maxRecDepth 100000 in
theorem append_any (w : World) (q r synced k : Nat) (rows : List RRow) (lv : Value) (A : Nat → Prop) (X : RefV) (Fr F : Nat → Prop) (h : RStoreAt w q r rows synced lv A X Fr F) (hn : rows.length = k + 1) (hk : k ≤ 1000000) (a : RSeg) (ha : (rows[k]'(by omega)).1 = a) (hs : a.end_ ≤ 2000000000001) (hsz : a.size ≤ 4000000000) (N : Nat) (hl : RLim N X) (body : ByteArray) (hb : body.size ≤ 140737488355328) :
    Calls Tryz.prog 84 #[.pointer (some ⟨q, 0, none⟩), .string body] w fun e w' => e = .returned (.tuple #[.int .u64 (X.lappend a body).2.2.1, .int .i64 (X.lappend a body).2.2.2]) ∧ Off F w w' ∧ ∃ (Fr' A' : Nat → Prop) (v : Value), RStoreAt w' q r (rows.set k ((X.lappend a body).2.1, v)) synced lv A' (X.lappend a body).1 Fr' (Grow F w w') := by
  have H := Lib.hid h; clear h
  have HLIM := Lib.hid hl; clear hl
  obtain ⟨a2, p, c, ha2, hx2, hbc, hcm, hlies, hagg⟩ := last_form H.out.pre hn
  rw [ha] at ha2
  subst ha2
  have hlast := fun W (hW : Off None w W) => last_any W q r synced k rows lv A (H.out.quiet hW).pre hn
  rw [hagg] at hlast
  have hnext := fun W (hW : Off None w W) => next_any W q r synced k rows lv A (H.out.quiet hW).pre hn (by rw [ha]; omega)
  rw [ha] at hnext
  obtain ⟨u, hu⟩ : ∃ u, u = a.first := ⟨_, rfl⟩
  obtain ⟨b, hbb⟩ : ∃ b, b = a.bodies.length := ⟨_, rfl⟩
  obtain ⟨z, hz⟩ : ∃ z, z = a.size := ⟨_, rfl⟩
  obtain ⟨en, hen⟩ : ∃ en, en = a.end_ := ⟨_, rfl⟩
  rw [← hu, ← hbb, ← hz] at hlast
  rw [← hen] at hnext hs
  rw [← hbb] at hbc
  rw [← hz] at hsz
  have hfe : en = u + b := by rw [hen, hu, hbb]; rfl
  have HFE := Lib.hid hfe
  have HL := Lib.hid hlast; have HNX := Lib.hid hnext; have HLIES := Lib.hid hlies
  have HU := Lib.hid hu; have HB := Lib.hid hbb; have HEN := Lib.hid hen; have HZ := Lib.hid hz; have HLA := Lib.hid ha; have HX2 := Lib.hid hx2
  have heb : u + b ≤ 2000000000001 := by omega
  clear hlast hnext hagg ha hx2 hu hbb hz hen hlies
  have hput := fun W => Frame.rput_any W en body (by omega) hb
  clear hfe
  have p0 : w.cell? ⟨q, 0, none⟩ = some (.pointer (some ⟨r, 0, none⟩)) := Heap.cell H.out.pre.core 0
  by_cases hbig : 2000 < body.size
  · have hput2 := hput
    have hput3 : ∀ W, Calls Tryz.prog 107 #[.int .u64 en, .string body] W fun e w' => e = .returned (.tuple #[.string ⟨#[]⟩, .int .i64 7]) ∧ Off None W w' := by
      intro W
      have h1 := hput2 W
      rw [if_pos (show Frame.MaxBody < body.size from hbig)] at h1
      exact h1
    have HP := Lib.hid hput3; clear hput3
    have hres : X.lappend a body = (X, a, 0, 7) := by unfold RefV.lappend; rw [if_pos hbig]
    have HRES := Lib.hid hres
    clear hput hput2 hres
    go_enter Tryz.func84, Tryz.ntmps84
    go_wp2_with fail
    refine (HNX.out w (Off.refl _ _)).mono ?_
    rintro e w1 ⟨rfl, ho1⟩
    have HO1 := Lib.hid ho1; clear ho1
    go_wp2_with fail
    refine (HP.out w1).mono ?_
    rintro e w2 ⟨rfl, ho2⟩
    have HO2 := Lib.hid (HO1.out.trans ho2 (fun _ _ h => h)); clear ho2 HO1
    go_wp2_with fail
    go_ret2
    rw [HRES.out]
    refine ⟨rfl, HO2.out.mono (fun _ _ h => h.elim), Fr, A, (rows[k]'(by omega)).2, ?_⟩
    have e1 : rows.set k (a, (rows[k]'(by omega)).2) = rows := by
      rw [← HLA.out]; exact List.set_getElem_self (by omega)
    rw [e1]
    exact (H.out.quiet HO2.out).mono (fun _ _ h => .inl h)
  · have hput3 : ∀ W, Calls Tryz.prog 107 #[.int .u64 en, .string body] W fun e w' => e = .returned (.tuple #[.string ⟨(Frame.putF en body.data.toList).toArray⟩, .int .i64 0]) ∧ Off None W w' := by
      intro W
      have h1 := hput W
      rw [if_neg (show ¬ Frame.MaxBody < body.size from hbig)] at h1
      exact h1
    obtain ⟨sb, hsb⟩ : ∃ sb : ByteArray, sb = ⟨(Frame.putF en body.data.toList).toArray⟩ := ⟨_, rfl⟩
    rw [← hsb] at hput3
    have hsbl : sb.size ≤ 3000 := by
      rw [hsb]
      show (Frame.putF en body.data.toList).toArray.size ≤ _
      rw [List.size_toArray]
      have h1 : body.data.toList.length = body.size := by simp
      have := Frame.putF_len en body.data.toList (by omega) (by rw [h1]; show body.size ≤ 2000; omega)
      omega
    obtain ⟨X1, er, hsc⟩ : ∃ X1 er, X.append (Seg.nameB u) sb = (X1, er) := ⟨_, _, rfl⟩
    have hres : X.lappend a body = if er = 0 then (X1, ⟨u, z + sb.size, a.bodies ++ [body]⟩, en, 0) else (X1, a, 0, er) := by
      unfold RefV.lappend
      rw [if_neg hbig, ← HU.out, ← HEN.out, ← hsb]
      dsimp only
      rw [hsc, ← HZ.out]
    have hdk := fun W (hW : Off None w W) => RefW.append_any W r X Fr (H.out.quiet hW).disk (Seg.nameB u) sb (by omega) HLIM.out.used_le HLIM.out.rows_le
    rw [hsc] at hdk
    have HP := Lib.hid hput3; have HSB := Lib.hid hsb; have HDK := Lib.hid hdk; have HRES := Lib.hid hres; have HNM := Lib.hid (fun W => name_any W u (by omega))
    have hsl := H.out.sepQ
    clear hput hput3 hsb hdk hres hsc
    go_enter Tryz.func84, Tryz.ntmps84
    go_wp2_with fail
    refine (HNX.out w (Off.refl _ _)).mono ?_
    rintro e w1 ⟨rfl, ho1⟩
    have HO1 := Lib.hid ho1; clear ho1
    go_wp2_with fail
    refine (HP.out w1).mono ?_
    rintro e w2 ⟨rfl, ho2⟩
    have HO2 := Lib.hid (HO1.out.trans ho2 (fun _ _ h => h)); clear ho2 HO1
    go_wp2_with fail
    refine (HL.out w2 HO2.out).mono ?_
    rintro e w3 ⟨rfl, ho3⟩
    have HO3 := Lib.hid (HO2.out.trans ho3 (fun _ _ h => h)); clear ho3 HO2
    go_wp2_with fail
    obtain ⟨bx, hbx⟩ : ∃ bx, bx = w3.heap.size := ⟨_, rfl⟩
    obtain ⟨w4, hw4⟩ : ∃ w4, w4 = w3.alloc (.cells #[.int .u64 u, .int .i64 b, .int .i64 z, .slice p b c] 136) := ⟨_, rfl⟩
    have hb4 : w4.heap[bx]? = some (.cells #[.int .u64 u, .int .i64 b, .int .i64 z, .slice p b c] 136 (0, 0)) := by rw [hw4, hbx]; exact Heap.alloc_new w3 _
    have ho4 : Off None w w4 := by rw [hw4]; exact HO3.out.alloc _
    have hbw : w.heap.size ≤ bx := by rw [hbx]; exact HO3.out.size
    have HW4 := Lib.hid hw4; have HBX := Lib.hid hbx
    have HB4 := Lib.hid hb4; have HO4 := Lib.hid ho4
    clear hw4 hbx hb4 ho4
    have k0 : w4.cell? ⟨q, 0, none⟩ = some (.pointer (some ⟨r, 0, none⟩)) := HO4.out.keep p0 (fun h => h)
    have k1 : w4.cell? ⟨bx, 0, none⟩ = some (.int .u64 u) := Heap.cell HB4.out 0
    have hbF : ¬ Fr bx := fun e => by have := (H.out.inR bx e).2; omega
    try rw [← HW4.out, ← HBX.out]
    go_region_held3 (fun W => W.cell? ⟨q, 0, none⟩ = some (.pointer (some ⟨r, 0, none⟩)) ∧ W.cell? ⟨bx, 0, none⟩ = some (.int .u64 u))
      (first | exact ⟨k0, k1⟩ | exact ⟨j0, j1⟩ | exact ⟨i0, i1⟩)
      (first
        | (go_at_call 112; refine (HNM.out _).mono ?_; rintro e w5 ⟨rfl, ho5⟩; have ho5 := ((Off.refl None w4).drew).trans ho5 (fun _ _ h => h); have j0 := ho5.keep k0 (fun h => h); have j1 := ho5.keep k1 (fun h => h))
        | (go_at_call 30; refine (HDK.out w5 (HO4.out.trans ho5 (fun _ _ h => h))).mono ?_; rintro e w6 ⟨rfl, hd6, ho6⟩; have i0 := ho6.keep j0 hsl; have i1 := ho6.keep j1 hbF))
    have ho05 := HO4.out.trans ho5 (fun _ _ h => h)
    have h6 := ((H.out.quiet ho05).turned hd6 ho6).mono (G := Grow F w w6) (fun b _ hb => hb.imp id (fun x => ⟨Nat.le_trans ho05.size x.1, x.2⟩))
    have hof6 : Off F w w6 := (ho05.mono (fun _ _ h => h.elim) : Off F w w5).trans ((H.out.quiet ho05).off_disk ho6) (fun _ _ h => h)
    have H6 := Lib.hid h6; have HO6 := Lib.hid hof6
    have HB6 := Lib.hid (ho6.at_ (ho5.at_ HB4.out (fun h => h)) hbF)
    have hl6 := (HLIES.out.off ho05 (fun _ _ h => h)).off ho6 (fun b hb => (H.out.sepA b hb).1)
    have HL6 := Lib.hid hl6
    have hbn : ¬ Grow Fr w5 w6 bx := fun h => h.elim hbF (fun h => by have := Heap.lt HB4.out; have := ho5.size; omega)
    have HBN := Lib.hid hbn
    clear h6 hof6 hd6 ho6 ho5 ho05 i0 i1 j0 j1 k0 k1 hl6 hbn HLIES
    by_cases hee : er = 0
    · subst hee
      have hrs := HRES.out
      rw [if_pos rfl] at hrs
      have HRS := Lib.hid hrs; clear hrs HRES
      obtain ⟨pl, cl, hlv⟩ := H6.out.pre.row.shape
      have q1 : w6.cell? ⟨q, 1, none⟩ = some (.slice pl (k + 1) cl) := by rw [← hn, ← hlv]; exact Heap.cell H6.out.pre.core 1
      obtain ⟨gl, ox, c2, hpl, hgl, _, _, hob, hcell⟩ := H6.out.pre.row.cell (by omega)
      rw [hlv] at hpl
      obtain rfl : pl = some ⟨gl, ox, none⟩ := by cases hpl; rfl
      have b0 : w6.cell? ⟨bx, 0, none⟩ = some (.int .u64 u) := Heap.cell HB6.out 0
      have b1 : w6.cell? ⟨bx, 1, none⟩ = some (.int .i64 b) := Heap.cell HB6.out 1
      have b2 : w6.cell? ⟨bx, 2, none⟩ = some (.int .i64 z) := Heap.cell HB6.out 2
      have b3 : w6.cell? ⟨bx, 3, none⟩ = some (.slice p b c) := Heap.cell HB6.out 3
      have hgb : gl ≠ bx := by
        intro e
        have h1 := H6.out.llt hob
        have h2 : gl < w.heap.size := by rw [hlv] at hob; cases hob; exact H.out.llt (by rw [hlv]; rfl)
        omega
      have HLV := Lib.hid hlv; have HOB := Lib.hid hob; have HGB := Lib.hid hgb
      clear hlv hob hpl hcell hgb
      go_wp2_with fail
      have hw1 : IntKind.i64.wrap (k : Int) = (k : Int) := IntWalk.i64_in _ (by omega)
      have hi0 : (0 : Int) ≤ (k : Int) := by omega
      have hi1 : (k : Int) < (k : Int) + 1 := by omega
      have hS : ∀ W, Off None w6 W → (W.cell? ⟨q, 1, none⟩ = some (.slice (some ⟨gl, ox, none⟩) (k + 1) cl) ∧ W.cell? ⟨bx, 0, none⟩ = some (.int .u64 u) ∧ W.cell? ⟨bx, 1, none⟩ = some (.int .i64 b) ∧ W.cell? ⟨bx, 2, none⟩ = some (.int .i64 z) ∧ W.cell? ⟨bx, 3, none⟩ = some (.slice p b c)) :=
        fun W hW => ⟨hW.keep q1 (fun h => h), hW.keep b0 (fun h => h), hW.keep b1 (fun h => h), hW.keep b2 (fun h => h), hW.keep b3 (fun h => h)⟩
      have hS2 : ∀ W, Off None w6 W → ∀ i0 i1 i2 i3 v0 v1 v2 v3, (((((W.setCell ⟨gl, i0, none⟩ v0).setCell ⟨gl, i1, none⟩ v1).setCell ⟨gl, i2, none⟩ v2).setCell ⟨gl, i3, none⟩ v3)).cell? ⟨q, 1, none⟩ = some (.slice (some ⟨gl, ox, none⟩) (k + 1) cl) ∧ (((((W.setCell ⟨gl, i0, none⟩ v0).setCell ⟨gl, i1, none⟩ v1).setCell ⟨gl, i2, none⟩ v2).setCell ⟨gl, i3, none⟩ v3)).cell? ⟨bx, 0, none⟩ = some (.int .u64 u) ∧ (((((W.setCell ⟨gl, i0, none⟩ v0).setCell ⟨gl, i1, none⟩ v1).setCell ⟨gl, i2, none⟩ v2).setCell ⟨gl, i3, none⟩ v3)).cell? ⟨bx, 1, none⟩ = some (.int .i64 b) ∧ (((((W.setCell ⟨gl, i0, none⟩ v0).setCell ⟨gl, i1, none⟩ v1).setCell ⟨gl, i2, none⟩ v2).setCell ⟨gl, i3, none⟩ v3)).cell? ⟨bx, 2, none⟩ = some (.int .i64 z) ∧ (((((W.setCell ⟨gl, i0, none⟩ v0).setCell ⟨gl, i1, none⟩ v1).setCell ⟨gl, i2, none⟩ v2).setCell ⟨gl, i3, none⟩ v3)).cell? ⟨bx, 3, none⟩ = some (.slice p b c) := by
        intro W hW i0 i1 i2 i3 v0 v1 v2 v3
        have ho := ((((hW.mono (fun _ _ h => h.elim) : Off (Only gl) w6 W).set i0 v0).set i1 v1).set i2 v2).set i3 v3
        have hq : ¬ Only gl q := fun e => H6.out.pre.ne (by rw [HOB.out, show q = gl from e])
        have hb2 : ¬ Only gl bx := fun e => (H6.out.sepL gl HOB.out).2.elim (fun h => by have := (H6.out.llt HOB.out); exact absurd (show gl = bx from e.symm) (fun e2 => HGB.out e2)) (fun h => HGB.out (show gl = bx from e.symm))
        exact ⟨ho.keep q1 hq, ho.keep b0 hb2, ho.keep b1 hb2, ho.keep b2 hb2, ho.keep b3 hb2⟩
      have HS := Lib.hid hS; have HS2 := Lib.hid hS2
      clear hS hS2
      have hwb : IntKind.i64.wrap ((b : Int) + 1) = (b : Int) + 1 := IntWalk.i64_in _ (by omega)
      have hwz : IntKind.i64.wrap ((z : Int) + (sb.size : Int)) = (z : Int) + (sb.size : Int) := IntWalk.i64_in _ (by omega)
      have hbl : b ≤ 4000000000000 := by omega
      go_region_held3 (fun W => W.cell? ⟨q, 1, none⟩ = some (.slice (some ⟨gl, ox, none⟩) (k + 1) cl) ∧ W.cell? ⟨bx, 0, none⟩ = some (.int .u64 u) ∧ W.cell? ⟨bx, 1, none⟩ = some (.int .i64 b) ∧ W.cell? ⟨bx, 2, none⟩ = some (.int .i64 z) ∧ W.cell? ⟨bx, 3, none⟩ = some (.slice p b c))
        (first | exact HS.out _ ho8 | exact HS.out _ (Off.refl None w6) | exact HS.out _ ((Off.refl None w6).drew) | exact HS.out _ ((Off.refl None w6).alloc _).drew | exact HS.out _ (((Off.refl None w6).alloc _).alloc _).drew | exact HS.out _ ho7 | exact HS.out _ (ho7.alloc _) | exact HS.out _ ho8 | exact HS.out _ ho7.drew | exact HS.out _ (ho7.alloc _).drew | exact HS.out _ ho8.drew | exact HS2.out _ ho8 _ _ _ _ _ _ _ _)
        (first
          | ((refine step_texts ?g1 (.tmp 55) (.tmp 57) ?g2 elemText w6.heap.size (.slice (some ⟨w6.heap.size, 0, none⟩) 0 0) 0 [] ?g3 ?o1 A p b c a.bodies HB.out.symm ?g4 ?r1 (Nat.zero_le _) hbl ?s1 ?_)
             case g1 => (rfl)
             case g2 => (rfl)
             case g3 => (rfl)
             case g4 => (rfl)
             case o1 => (first | exact row_empty (Heap.alloc_new w6 _) (Nat.le_refl _) | exact row_empty (Heap.alloc_old (Heap.alloc_new w6 _) _) (Nat.le_refl _) | exact row_empty (by have := Heap.alloc_new (w6.alloc (.cells #[.string body] 9)) (.cells #[] 9); rwa [Heap.alloc_size] at this) (by omega))
             case r1 => (first | exact HL6.out.off ((Off.refl None w6).alloc _).drew (fun _ _ h => h) | exact HL6.out.off (((Off.refl None w6).alloc _).alloc _).drew (fun _ _ h => h))
             case s1 => (first | exact (((Off.refl None w6).alloc _).drew : Off None w6 _).size | exact ((((Off.refl None w6).alloc _).alloc _).drew : Off None w6 _).size)
             intro v7 w7 hrow7 hg7 hf7
             rw [Nat.zero_add] at hrow7
             obtain ⟨p7, c7, rfl⟩ := own_shape hrow7
             have ho7 : Off None w6 w7 := by first | exact off_empty ((Off.refl None w6).alloc _).drew hg7 (by omega) | exact off_empty (((Off.refl None w6).alloc _).alloc _).drew hg7 (by omega)
             first
             | (have hT7 := grown_new1 hg7 rfl)
             | (have hT7 := grown_new2 hg7 rfl)
             | skip)
          | ((refine step_texts ?g1 (.tmp 55) (.tmp 57) ?g2 elemText w6.heap.size (.slice (some ⟨w6.heap.size + 1, 0, none⟩) 0 0) 0 [] ?g3 ?o1 A p b c a.bodies HB.out.symm ?g4 ?r1 (Nat.zero_le _) hbl ?s1 ?_)
             case g1 => (rfl)
             case g2 => (rfl)
             case g3 => (rfl)
             case g4 => (rfl)
             case o1 => (first | exact row_empty (Heap.alloc_new w6 _) (Nat.le_refl _) | exact row_empty (Heap.alloc_old (Heap.alloc_new w6 _) _) (Nat.le_refl _) | exact row_empty (by have := Heap.alloc_new (w6.alloc (.cells #[.string body] 9)) (.cells #[] 9); rwa [Heap.alloc_size] at this) (by omega))
             case r1 => (first | exact HL6.out.off ((Off.refl None w6).alloc _).drew (fun _ _ h => h) | exact HL6.out.off (((Off.refl None w6).alloc _).alloc _).drew (fun _ _ h => h))
             case s1 => (first | exact (((Off.refl None w6).alloc _).drew : Off None w6 _).size | exact ((((Off.refl None w6).alloc _).alloc _).drew : Off None w6 _).size)
             intro v7 w7 hrow7 hg7 hf7
             rw [Nat.zero_add] at hrow7
             obtain ⟨p7, c7, rfl⟩ := own_shape hrow7
             have ho7 : Off None w6 w7 := by first | exact off_empty ((Off.refl None w6).alloc _).drew hg7 (by omega) | exact off_empty (((Off.refl None w6).alloc _).alloc _).drew hg7 (by omega)
             first
             | (have hT7 := grown_new1 hg7 rfl)
             | (have hT7 := grown_new2 hg7 rfl)
             | skip)
          | ((refine step_texts ?g1 (.tmp 58) (.tmp 60) ?g2 elemText w6.heap.size (.slice p7 b c7) b (textCells a.bodies) ?g3 ?o2 (fun _ => True) (some ⟨w6.heap.size, 0, none⟩) 1 1 [body] rfl ?g4 ?r2 hbl (by decide) ?s2 ?_)
             case g1 => (rfl)
             case g2 => (rfl)
             case g3 => (rfl)
             case g4 => (rfl)
             case o2 => (first | exact hrow7 | exact ((Off.refl None w7).alloc _).row hrow7 (fun _ _ h => h) | exact (((Off.refl None w7).alloc _).drew).row hrow7 (fun _ _ h => h))
             case r2 => (first
               | exact (fun i hi => by obtain rfl : i = 0 := by simpa using hi
                                       exact ⟨_, rfl, trivial, Heap.lt hT7, Heap.cell hT7 0⟩)
               | exact (fun i hi => by obtain rfl : i = 0 := by simpa using hi
                                       exact ⟨_, rfl, trivial, Heap.lt (Heap.alloc_new w7 _), Heap.cell (Heap.alloc_new w7 (.cells #[.string body] 9)) 0⟩))
             case s2 => (first | exact ho7.size | exact (ho7.alloc _).size | exact ho7.drew.size | exact (ho7.alloc _).drew.size)
             intro v8 w8 hrow8 hg8 hf8
             obtain ⟨p8, c8, rfl⟩ := own_shape hrow8
             have ho8 : Off None w6 w8 := by first | exact (ho7.alloc _).drew.grown hg8 (fun k hk => .inr (World.ownsRow.lt hrow7 k hk).1) | exact ho7.drew.grown hg8 (fun k hk => .inr (World.ownsRow.lt hrow7 k hk).1) | exact ho7.grown hg8 (fun k hk => .inr (World.ownsRow.lt hrow7 k hk).1) | exact (ho7.alloc _).grown hg8 (fun k hk => .inr (World.ownsRow.lt hrow7 k hk).1)
             obtain ⟨u0, u1, u2, u3, y0, y1, y2, y3, fz0, fz1, fz2, fz3⟩ := (H6.out.quiet ho8).pre.there (k := k) (by omega) HLV.out)
          | ((refine step_texts ?g1 (.tmp 58) (.tmp 60) ?g2 elemText w6.heap.size (.slice p7 b c7) b (textCells a.bodies) ?g3 ?o2 (fun _ => True) (some ⟨w6.heap.size + 1, 0, none⟩) 1 1 [body] rfl ?g4 ?r2 hbl (by decide) ?s2 ?_)
             case g1 => (rfl)
             case g2 => (rfl)
             case g3 => (rfl)
             case g4 => (rfl)
             case o2 => (first | exact hrow7 | exact ((Off.refl None w7).alloc _).row hrow7 (fun _ _ h => h) | exact (((Off.refl None w7).alloc _).drew).row hrow7 (fun _ _ h => h))
             case r2 => (first
               | exact (fun i hi => by obtain rfl : i = 0 := by simpa using hi
                                       exact ⟨_, rfl, trivial, Heap.lt hT7, Heap.cell hT7 0⟩)
               | exact (fun i hi => by obtain rfl : i = 0 := by simpa using hi
                                       exact ⟨_, rfl, trivial, Heap.lt (Heap.alloc_new w7 _), Heap.cell (Heap.alloc_new w7 (.cells #[.string body] 9)) 0⟩))
             case s2 => (first | exact ho7.size | exact (ho7.alloc _).size | exact ho7.drew.size | exact (ho7.alloc _).drew.size)
             intro v8 w8 hrow8 hg8 hf8
             obtain ⟨p8, c8, rfl⟩ := own_shape hrow8
             have ho8 : Off None w6 w8 := by first | exact (ho7.alloc _).drew.grown hg8 (fun k hk => .inr (World.ownsRow.lt hrow7 k hk).1) | exact ho7.drew.grown hg8 (fun k hk => .inr (World.ownsRow.lt hrow7 k hk).1) | exact ho7.grown hg8 (fun k hk => .inr (World.ownsRow.lt hrow7 k hk).1) | exact (ho7.alloc _).grown hg8 (fun k hk => .inr (World.ownsRow.lt hrow7 k hk).1)
             obtain ⟨u0, u1, u2, u3, y0, y1, y2, y3, fz0, fz1, fz2, fz3⟩ := (H6.out.quiet ho8).pre.there (k := k) (by omega) HLV.out)
          | ((refine step_texts ?g1 (.tmp 58) (.tmp 60) ?g2 elemText w6.heap.size (.slice p7 b c7) b (textCells a.bodies) ?g3 ?o2 (fun _ => True) (some ⟨w7.heap.size, 0, none⟩) 1 1 [body] rfl ?g4 ?r2 hbl (by decide) ?s2 ?_)
             case g1 => (rfl)
             case g2 => (rfl)
             case g3 => (rfl)
             case g4 => (rfl)
             case o2 => (first | exact hrow7 | exact ((Off.refl None w7).alloc _).row hrow7 (fun _ _ h => h) | exact (((Off.refl None w7).alloc _).drew).row hrow7 (fun _ _ h => h))
             case r2 => (first
               | exact (fun i hi => by obtain rfl : i = 0 := by simpa using hi
                                       exact ⟨_, rfl, trivial, Heap.lt hT7, Heap.cell hT7 0⟩)
               | exact (fun i hi => by obtain rfl : i = 0 := by simpa using hi
                                       exact ⟨_, rfl, trivial, Heap.lt (Heap.alloc_new w7 _), Heap.cell (Heap.alloc_new w7 (.cells #[.string body] 9)) 0⟩))
             case s2 => (first | exact ho7.size | exact (ho7.alloc _).size | exact ho7.drew.size | exact (ho7.alloc _).drew.size)
             intro v8 w8 hrow8 hg8 hf8
             obtain ⟨p8, c8, rfl⟩ := own_shape hrow8
             have ho8 : Off None w6 w8 := by (first | exact (ho7.alloc _).drew.grown hg8 (fun k hk => .inr (World.ownsRow.lt hrow7 k hk).1) | exact ho7.drew.grown hg8 (fun k hk => .inr (World.ownsRow.lt hrow7 k hk).1) | exact ho7.grown hg8 (fun k hk => .inr (World.ownsRow.lt hrow7 k hk).1) | exact (ho7.alloc _).grown hg8 (fun k hk => .inr (World.ownsRow.lt hrow7 k hk).1))
             obtain ⟨u0, u1, u2, u3, y0, y1, y2, y3, fz0, fz1, fz2, fz3⟩ := (H6.out.quiet ho8).pre.there (k := k) (by omega) HLV.out)
          | fail)
      all_goals
        obtain ⟨e1, e2⟩ := append_end (u := u) (z := z) (sb := sb) H6.out HO6.out ho8 hrow8 (show k < rows.length by omega) HLV.out
        have E1 := Lib.hid e1; have E2 := Lib.hid e2
        clear e1 e2 hrow8 hg8 hf8 ho8 y0 y1 y2 y3 fz0 fz1 fz2 fz3
        go_wp2_with fail
        go_ret2
        rw [HRS.out]
        exact ⟨rfl, E2.out, _, _, _, E1.out⟩
    · have hrs := HRES.out
      rw [if_neg hee] at hrs
      have HRS := Lib.hid hrs; clear hrs HRES
      have z1 : (er != 0) = true := by rw [bne_iff_ne]; exact hee
      go_wp2_with fail
      go_ret2
      rw [HRS.out]
      have e1 : rows.set k (a, (rows[k]'(by omega)).2) = rows := by
        rw [← HLA.out]; exact List.set_getElem_self (by omega)
      have hfin : RStoreAt w6 q r (rows.set k (a, (rows[k]'(by omega)).2)) synced lv A X1 (Grow Fr w5 w6) (Grow F w w6) := by rw [e1]; exact H6.out
      exact ⟨rfl, HO6.out, _, _, _, hfin⟩
end RefL
end Go.Proofs.YtnppdcegpojmbaaGreatDoor
