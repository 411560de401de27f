/-
  DERIVED: THE SHELF's CONTRACTS AT THIS DUMP, IN PLAIN WORDS (tools/lay-plain.mjs out of 'YtnppdcegpojmbaaGreatDoorShelfI.lean', which tools/lay-shelf.mjs wrote): THE SAME DECLARATIONS UNDER THE SAME NAMES: 'import', 'namespace', 'open', 'def', 'theorem' AND NOTHING ELSE: no command of the shelf's: FOR A HAND-IN. Each laying: the table of numbers ('.._ren') and one theorem, a field a fact of the dump's own or the kernel's comparison; each contract: ONE APPLICATION.
-/
import Derived.Shelf.SlGeneric
import Derived.Shelf.SlIterI.Nil
import Derived.Shelf.SortM.Plain
import Derived.Shelf.SortM.SortNone
import Derived.Ground.GgzProg
import Derived.Ground.SlgmProg
import Derived.Test.YtnppdcegpojmbaaGreatDoorProg
namespace Go.Proofs
open Go.Shelf
def Tryz.keysI_ren : Go.Shelf.Ren := ⟨fun | 7 => 82 | 10 => 120 | n => n, fun | 23 => 139 | 26 => 3 | 3 => 9 | 28 => 142 | 0 => 0 | 27 => 141 | 33 => 172 | 4 => 4 | n => n, fun | n => n⟩
theorem Tryz.keysI : Go.Proofs.SlLaysZI.n7 Tryz.prog Tryz.keysI_ren := {
  mixed := by kernel_rfl
  f7 := ⟨Tryz.f82.name, by decide, Tryz.func82.trans (congrArg some (by kernel_rfl))⟩
  f10 := ⟨Tryz.f120.name, by decide, Tryz.func120.trans (congrArg some (by kernel_rfl))⟩
  t0 := Tryz.underlying0
  a0 := Tryz.isAgg0
  z0 := Tryz.sizeOf0
  v0 := Tryz.zeroValue0
  t4 := Tryz.underlying4
  a4 := Tryz.isAgg4
  z4 := Tryz.sizeOf4
  v4 := Tryz.zeroValue4
  t23 := Tryz.underlying139
  a23 := Tryz.isAgg139
  z23 := Tryz.sizeOf139
  v23 := Tryz.zeroValue139
  t26 := Tryz.underlying3
  a26 := Tryz.isAgg3
  z26 := Tryz.sizeOf3
  v26 := Tryz.zeroValue3
  t27 := Tryz.underlying141
  a27 := Tryz.isAgg141
  z27 := Tryz.sizeOf141
  v27 := Tryz.zeroValue141
  t28 := Tryz.underlying142
  a28 := Tryz.isAgg142
  z28 := Tryz.sizeOf142
  v28 := Tryz.zeroValue142
  t33 := Tryz.underlying172
  a33 := Tryz.isAgg172
  z33 := Tryz.sizeOf172
  v33 := Tryz.zeroValue172 }
def Tryz.sortedI_ren : Go.Shelf.Ren := ⟨fun | 6 => 81 | 8 => 118 | 9 => 119 | 11 => 143 | 13 => 128 | 12 => 144 | 23 => 164 | 24 => 165 | 14 => 175 | 15 => 176 | 16 => 177 | 17 => 178 | 18 => 179 | 19 => 180 | 20 => 181 | 21 => 182 | 22 => 183 | 25 => 202 | 26 => 195 | 27 => 196 | 28 => 203 | 29 => 204 | 30 => 205 | 31 => 213 | n => n, fun | 26 => 3 | 28 => 142 | 24 => 23 | 0 => 0 | 3 => 3 | 37 => 152 | 48 => 176 | 50 => 31 | 4 => 4 | 40 => 210 | 39 => 209 | 45 => 144 | 5 => 5 | 9 => 9 | 51 => 241 | 55 => 244 | 57 => 253 | 58 => 254 | 33 => 172 | n => n, fun | n => n⟩
theorem Tryz.sortedI : Go.Proofs.SlLaysZI.n6 Tryz.prog Tryz.sortedI_ren := {
  mixed := by kernel_rfl
  f6 := ⟨Tryz.f81.name, by decide, Tryz.func81.trans (congrArg some (by kernel_rfl))⟩
  f8 := ⟨Tryz.f118.name, by decide, Tryz.func118.trans (congrArg some (by kernel_rfl))⟩
  f11 := ⟨Tryz.f143.name, by decide, Tryz.func143.trans (congrArg some (by kernel_rfl))⟩
  t0 := Tryz.underlying0
  a0 := Tryz.isAgg0
  z0 := Tryz.sizeOf0
  v0 := Tryz.zeroValue0
  t24 := Tryz.underlying23
  a24 := Tryz.isAgg23
  z24 := Tryz.sizeOf23
  v24 := Tryz.zeroValue23
  t26 := Tryz.underlying3
  a26 := Tryz.isAgg3
  z26 := Tryz.sizeOf3
  v26 := Tryz.zeroValue3
  t28 := Tryz.underlying142
  a28 := Tryz.isAgg142
  z28 := Tryz.sizeOf142
  v28 := Tryz.zeroValue142
  i26 := by kernel_rfl }
def Tryz.sortI_ren : Go.Shelf.Ren := ⟨fun | 5 => 119 | 8 => 128 | 7 => 144 | 19 => 164 | 20 => 165 | 10 => 175 | 11 => 176 | 12 => 177 | 13 => 178 | 14 => 179 | 15 => 180 | 16 => 181 | 17 => 182 | 18 => 183 | 30 => 202 | 31 => 195 | 32 => 196 | 33 => 203 | 34 => 204 | 35 => 205 | 40 => 213 | n => n, fun | 23 => 23 | 25 => 3 | 3 => 3 | 32 => 152 | 22 => 23 | 0 => 0 | 44 => 176 | 46 => 31 | 4 => 4 | 36 => 210 | 35 => 209 | 41 => 144 | 5 => 5 | 9 => 9 | 53 => 241 | 57 => 244 | 63 => 253 | 64 => 254 | n => n, fun | n => n⟩
theorem Tryz.sortI : Go.Proofs.SlLaysM.n5 Tryz.prog Tryz.sortI_ren := {
  mixed := by kernel_rfl
  f5 := ⟨Tryz.f119.name, by decide, Tryz.func119.trans (congrArg some (by kernel_rfl))⟩
  f7 := ⟨Tryz.f144.name, by decide, Tryz.func144.trans (congrArg some (by kernel_rfl))⟩
  f8 := Tryz.func128.trans (congrArg some (by kernel_rfl))
  f10 := ⟨Tryz.f175.name, by decide, Tryz.func175.trans (congrArg some (by kernel_rfl))⟩
  f11 := ⟨Tryz.f176.name, by decide, Tryz.func176.trans (congrArg some (by kernel_rfl))⟩
  f12 := ⟨Tryz.f177.name, by decide, Tryz.func177.trans (congrArg some (by kernel_rfl))⟩
  f13 := ⟨Tryz.f178.name, by decide, Tryz.func178.trans (congrArg some (by kernel_rfl))⟩
  f14 := ⟨Tryz.f179.name, by decide, Tryz.func179.trans (congrArg some (by kernel_rfl))⟩
  f15 := ⟨Tryz.f180.name, by decide, Tryz.func180.trans (congrArg some (by kernel_rfl))⟩
  f16 := ⟨Tryz.f181.name, by decide, Tryz.func181.trans (congrArg some (by kernel_rfl))⟩
  f17 := ⟨Tryz.f182.name, by decide, Tryz.func182.trans (congrArg some (by kernel_rfl))⟩
  f18 := ⟨Tryz.f183.name, by decide, Tryz.func183.trans (congrArg some (by kernel_rfl))⟩
  f19 := Tryz.func164.trans (congrArg some (by kernel_rfl))
  f20 := Tryz.func165.trans (congrArg some (by kernel_rfl))
  f30 := ⟨Tryz.f202.name, by decide, Tryz.func202.trans (congrArg some (by kernel_rfl))⟩
  f31 := Tryz.func195.trans (congrArg some (by kernel_rfl))
  f32 := Tryz.func196.trans (congrArg some (by kernel_rfl))
  f33 := ⟨Tryz.f203.name, by decide, Tryz.func203.trans (congrArg some (by kernel_rfl))⟩
  f34 := ⟨Tryz.f204.name, by decide, Tryz.func204.trans (congrArg some (by kernel_rfl))⟩
  f35 := ⟨Tryz.f205.name, by decide, Tryz.func205.trans (congrArg some (by kernel_rfl))⟩
  f40 := ⟨Tryz.f213.name, by decide, Tryz.func213.trans (congrArg some (by kernel_rfl))⟩
  t0 := Tryz.underlying0
  a0 := Tryz.isAgg0
  z0 := Tryz.sizeOf0
  v0 := Tryz.zeroValue0
  t3 := Tryz.underlying3
  a3 := Tryz.isAgg3
  z3 := Tryz.sizeOf3
  v3 := Tryz.zeroValue3
  t4 := Tryz.underlying4
  a4 := Tryz.isAgg4
  z4 := Tryz.sizeOf4
  v4 := Tryz.zeroValue4
  t5 := Tryz.underlying5
  a5 := Tryz.isAgg5
  z5 := Tryz.sizeOf5
  v5 := Tryz.zeroValue5
  t9 := Tryz.underlying9
  a9 := Tryz.isAgg9
  z9 := Tryz.sizeOf9
  v9 := Tryz.zeroValue9
  t22 := Tryz.underlying23
  a22 := Tryz.isAgg23
  z22 := Tryz.sizeOf23
  v22 := Tryz.zeroValue23
  t23 := Tryz.underlying23
  a23 := Tryz.isAgg23
  z23 := Tryz.sizeOf23
  v23 := Tryz.zeroValue23
  t25 := Tryz.underlying3
  a25 := Tryz.isAgg3
  z25 := Tryz.sizeOf3
  v25 := Tryz.zeroValue3
  t32 := Tryz.underlying152
  a32 := Tryz.isAgg152
  z32 := Tryz.sizeOf152
  v32 := Tryz.zeroValue152
  t35 := Tryz.underlying209
  a35 := Tryz.isAgg209
  z35 := Tryz.sizeOf209
  v35 := Tryz.zeroValue209
  t36 := Tryz.underlying210
  a36 := Tryz.isAgg210
  z36 := Tryz.sizeOf210
  v36 := Tryz.zeroValue210
  t41 := Tryz.underlying144
  a41 := Tryz.isAgg144
  z41 := Tryz.sizeOf144
  v41 := Tryz.zeroValue144
  t44 := Tryz.underlying176
  a44 := Tryz.isAgg176
  z44 := Tryz.sizeOf176
  v44 := Tryz.zeroValue176
  t46 := Tryz.underlying31
  a46 := Tryz.isAgg31
  z46 := Tryz.sizeOf31
  v46 := Tryz.zeroValue31
  t53 := Tryz.underlying241
  a53 := Tryz.isAgg241
  z53 := Tryz.sizeOf241
  v53 := Tryz.zeroValue241
  t57 := Tryz.underlying244
  a57 := Tryz.isAgg244
  z57 := Tryz.sizeOf244
  v57 := Tryz.zeroValue244
  t63 := Tryz.underlying253
  a63 := Tryz.isAgg253
  z63 := Tryz.sizeOf253
  v63 := Tryz.zeroValue253
  t64 := Tryz.underlying254
  a64 := Tryz.isAgg254
  z64 := Tryz.sizeOf254
  v64 := Tryz.zeroValue254 }
open Go.RowKit Go.Maps Go.Sort in
theorem Tryz.sortsI (m : Nat) : AnyZI.SortsIn Tryz.prog Tryz.sortedI_ren Fence.wide m :=
  ⟨fun blk off cap ss W hH hblk hsz => callsIn_wide.2 (AnyM.slices_Sort_int Tryz.sortI blk off cap ss W hH hblk hsz),
   fun p cap W => callsIn_wide.2 (AnyM.slices_Sort_int_none Tryz.sortI p cap W)⟩
open Go.RowKit Go.Maps Go.Sort in
theorem Tryz.maps_KeysI (mb : Option Nat) (W : World) : CallsIn Fence.wide 5 Tryz.prog 82 #[.map mb] W fun e w' => e = .returned (.func (.func 120) #[] #[.pointer (some ⟨W.heap.size, 0, none⟩)]) ∧ w' = W.alloc (.cells #[.map mb] 139) :=
  AnyZI.keys_in Tryz.keysI Fence.wide 5 trivial rfl mb W
open Go.RowKit Go.Maps Go.Sort in
theorem Tryz.slices_SortedI {H : Type} (b nn : Nat) (D0 : DataW H) (R : Value → Option (DataW H × List MemPlace)) (w : World) (hown : w.ownsMap Tryz.prog 3 R b nn D0) (hmax : Maps.size D0 ≤ maxLen) (hbytes : Maps.size D0 * 8 ≤ 140737488355328) :
    CallsIn Fence.wide 5 Tryz.prog 81 #[.func (.func 120) #[] #[.pointer (some ⟨w.heap.size, 0, none⟩)]] (w.alloc (.cells #[.map (some b)] 139)) fun e w' => ∃ (v : Value) (ss : List Int), e = .returned v ∧ ss.Perm (intKeys D0) ∧
      w'.ownsRow (w.alloc (.cells #[.map (some b)] 139)).heap.size 3 1 v ss.length ((ss.mergeSort (fun x y => decide (x ≤ y))).map encZ) ∧ (v = .slice none 0 0 ↔ ss = []) ∧ Below (w.alloc (.cells #[.map (some b)] 139)).heap.size (w.alloc (.cells #[.map (some b)] 139)) w' := by
  have hbl := hown.lt
  have hseq : SeqGives Fence.wide 2 Tryz.prog 120 #[.pointer (some ⟨w.heap.size, 0, none⟩)] encZ (fun ss => ss.Perm (intKeys D0)) (Maps.size D0) (w.alloc (.cells #[.map (some b)] 139)) :=
    AnyZI.keys_gives (ρ := Tryz.keysI_ren) { Tryz.keysI with } Fence.wide _ trivial rfl (by omega) w.heap.size b nn D0 _ (by simp) (by simp) (by
      obtain ⟨es, clock, hb, Ft, hs, hD⟩ := hown
      exact ⟨es, clock, (Below.heap_alloc _ _ b hbl).trans hb, Ft, hs, hD⟩)
  exact AnyZI.sorted_in Tryz.sortedI Fence.wide 5 trivial trivial trivial trivial rfl (by omega) (Tryz.sortsI _) (enters_of Tryz.func119 (by kernel_rfl) rfl) 120 #[.pointer (some ⟨w.heap.size, 0, none⟩)] trivial (enters_of Tryz.func120 (by kernel_rfl) rfl) _ _ hmax hbytes _ hseq
end Go.Proofs
