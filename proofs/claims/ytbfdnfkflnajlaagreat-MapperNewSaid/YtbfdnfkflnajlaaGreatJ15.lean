/-
  slices.Sorted(maps.Keys(m)): the shelf's contracts laid (after what lay-iter.mjs prints).
-/
import Derived.Shelf.SlIter.Nil
import Derived.Shelf.SortM.Plain
import Derived.Shelf.SortM.SortNone
import Derived.Ground.GgzProg
import Derived.Ground.SlgmProg
import Derived.Test.YtbfdnfkflnajlaaGreatProg
set_option linter.unusedVariables false
set_option linter.unusedSimpArgs false
/-! slices.Sorted(maps.Keys(m)): the shelf's contracts laid (after what lay-iter.mjs prints). -/
namespace Go.Proofs.YtbfdnfkflnajlaaGreat
open Go.RowKit Go.Maps Go.Sort Go.Shelf

-- maps.Keys[map[string]tegula/family.volume,string,tegula/family.volume] (function 86; its iterator 148) · slices.Sorted[string] (85) · slices.Sort[[]string,string] (147) · the map's type 74, the keys' 9
def Tryz.keysL_ren : Go.Shelf.Ren := ⟨fun | 7 => 86 | 10 => 148 | n => n, fun | 23 => 74 | 26 => 9 | 3 => 170 | 28 => 162 | 0 => 0 | 27 => 161 | 33 => 176 | 4 => 4 | n => n, fun | n => n⟩
theorem Tryz.keysL : Go.Proofs.SlLaysZ.n7 Tryz.prog Tryz.keysL_ren := {
  mixed := by kernel_rfl
  f7 := ⟨Tryz.f86.name, by decide, Tryz.func86.trans (congrArg some (by kernel_rfl))⟩
  f10 := ⟨Tryz.f148.name, by decide, Tryz.func148.trans (congrArg some (by kernel_rfl))⟩
  t0 := Tryz.underlying0
  a0 := Tryz.isAgg0
  z0 := Tryz.sizeOf0
  v0 := Tryz.zeroValue0
  t4 := Tryz.underlying4
  a4 := Tryz.isAgg4
  z4 := Tryz.sizeOf4
  v4 := Tryz.zeroValue4
  t23 := Tryz.underlying74
  a23 := Tryz.isAgg74
  z23 := Tryz.sizeOf74
  v23 := Tryz.zeroValue74
  t26 := Tryz.underlying9
  a26 := Tryz.isAgg9
  z26 := Tryz.sizeOf9
  v26 := Tryz.zeroValue9
  t27 := Tryz.underlying161
  a27 := Tryz.isAgg161
  z27 := Tryz.sizeOf161
  v27 := Tryz.zeroValue161
  t28 := Tryz.underlying162
  a28 := Tryz.isAgg162
  z28 := Tryz.sizeOf162
  v28 := Tryz.zeroValue162
  t33 := Tryz.underlying176
  a33 := Tryz.isAgg176
  z33 := Tryz.sizeOf176
  v33 := Tryz.zeroValue176 }
def Tryz.sortedL_ren : Go.Shelf.Ren := ⟨fun | 6 => 85 | 8 => 146 | 9 => 147 | 11 => 188 | 13 => 190 | 12 => 189 | 23 => 225 | 24 => 226 | 14 => 216 | 15 => 217 | 16 => 218 | 17 => 219 | 18 => 220 | 19 => 221 | 20 => 222 | 21 => 223 | 22 => 224 | 25 => 232 | 26 => 233 | 27 => 234 | 28 => 235 | 29 => 236 | 30 => 237 | 31 => 247 | n => n, fun | 26 => 9 | 28 => 162 | 24 => 94 | 0 => 0 | 3 => 3 | 37 => 223 | 48 => 284 | 50 => 110 | 4 => 4 | 40 => 277 | 39 => 276 | 45 => 194 | 5 => 5 | 9 => 9 | 51 => 287 | 55 => 291 | 57 => 298 | 58 => 299 | 33 => 176 | n => n, fun | n => n⟩
theorem Tryz.sortedL : Go.Proofs.SlLaysZ.n6 Tryz.prog Tryz.sortedL_ren := {
  mixed := by kernel_rfl
  f6 := ⟨Tryz.f85.name, by decide, Tryz.func85.trans (congrArg some (by kernel_rfl))⟩
  f8 := ⟨Tryz.f146.name, by decide, Tryz.func146.trans (congrArg some (by kernel_rfl))⟩
  f11 := ⟨Tryz.f188.name, by decide, Tryz.func188.trans (congrArg some (by kernel_rfl))⟩
  t0 := Tryz.underlying0
  a0 := Tryz.isAgg0
  z0 := Tryz.sizeOf0
  v0 := Tryz.zeroValue0
  t24 := Tryz.underlying94
  a24 := Tryz.isAgg94
  z24 := Tryz.sizeOf94
  v24 := Tryz.zeroValue94
  t26 := Tryz.underlying9
  a26 := Tryz.isAgg9
  z26 := Tryz.sizeOf9
  v26 := Tryz.zeroValue9
  t28 := Tryz.underlying162
  a28 := Tryz.isAgg162
  z28 := Tryz.sizeOf162
  v28 := Tryz.zeroValue162
  i26 := by kernel_rfl }
def Tryz.sortL_ren : Go.Shelf.Ren := ⟨fun | 6 => 147 | 8 => 190 | 9 => 189 | 19 => 225 | 20 => 226 | 21 => 216 | 22 => 217 | 23 => 218 | 24 => 219 | 25 => 220 | 26 => 221 | 27 => 222 | 28 => 223 | 29 => 224 | 36 => 232 | 31 => 233 | 32 => 234 | 37 => 235 | 38 => 236 | 39 => 237 | 41 => 247 | n => n, fun | 27 => 94 | 29 => 9 | 3 => 3 | 32 => 223 | 26 => 94 | 0 => 0 | 44 => 284 | 46 => 110 | 4 => 4 | 36 => 277 | 35 => 276 | 41 => 194 | 5 => 5 | 9 => 9 | 53 => 287 | 57 => 291 | 63 => 298 | 64 => 299 | n => n, fun | n => n⟩
theorem Tryz.sortL : Go.Proofs.SlLaysM.n6 Tryz.prog Tryz.sortL_ren := {
  mixed := by kernel_rfl
  f6 := ⟨Tryz.f147.name, by decide, Tryz.func147.trans (congrArg some (by kernel_rfl))⟩
  f8 := Tryz.func190.trans (congrArg some (by kernel_rfl))
  f9 := ⟨Tryz.f189.name, by decide, Tryz.func189.trans (congrArg some (by kernel_rfl))⟩
  f19 := Tryz.func225.trans (congrArg some (by kernel_rfl))
  f20 := Tryz.func226.trans (congrArg some (by kernel_rfl))
  f21 := ⟨Tryz.f216.name, by decide, Tryz.func216.trans (congrArg some (by kernel_rfl))⟩
  f22 := ⟨Tryz.f217.name, by decide, Tryz.func217.trans (congrArg some (by kernel_rfl))⟩
  f23 := ⟨Tryz.f218.name, by decide, Tryz.func218.trans (congrArg some (by kernel_rfl))⟩
  f24 := ⟨Tryz.f219.name, by decide, Tryz.func219.trans (congrArg some (by kernel_rfl))⟩
  f25 := ⟨Tryz.f220.name, by decide, Tryz.func220.trans (congrArg some (by kernel_rfl))⟩
  f26 := ⟨Tryz.f221.name, by decide, Tryz.func221.trans (congrArg some (by kernel_rfl))⟩
  f27 := ⟨Tryz.f222.name, by decide, Tryz.func222.trans (congrArg some (by kernel_rfl))⟩
  f28 := ⟨Tryz.f223.name, by decide, Tryz.func223.trans (congrArg some (by kernel_rfl))⟩
  f29 := ⟨Tryz.f224.name, by decide, Tryz.func224.trans (congrArg some (by kernel_rfl))⟩
  f31 := Tryz.func233.trans (congrArg some (by kernel_rfl))
  f32 := Tryz.func234.trans (congrArg some (by kernel_rfl))
  f36 := ⟨Tryz.f232.name, by decide, Tryz.func232.trans (congrArg some (by kernel_rfl))⟩
  f37 := ⟨Tryz.f235.name, by decide, Tryz.func235.trans (congrArg some (by kernel_rfl))⟩
  f38 := ⟨Tryz.f236.name, by decide, Tryz.func236.trans (congrArg some (by kernel_rfl))⟩
  f39 := ⟨Tryz.f237.name, by decide, Tryz.func237.trans (congrArg some (by kernel_rfl))⟩
  f41 := ⟨Tryz.f247.name, by decide, Tryz.func247.trans (congrArg some (by kernel_rfl))⟩
  t0 := Tryz.underlying0
  a0 := Tryz.isAgg0
  z0 := Tryz.sizeOf0
  v0 := Tryz.zeroValue0
  t3 := Tryz.underlying3
  a3 := Tryz.isAgg3
  z3 := Tryz.sizeOf3
  v3 := Tryz.zeroValue3
  t4 := Tryz.underlying4
  a4 := Tryz.isAgg4
  z4 := Tryz.sizeOf4
  v4 := Tryz.zeroValue4
  t5 := Tryz.underlying5
  a5 := Tryz.isAgg5
  z5 := Tryz.sizeOf5
  v5 := Tryz.zeroValue5
  t9 := Tryz.underlying9
  a9 := Tryz.isAgg9
  z9 := Tryz.sizeOf9
  v9 := Tryz.zeroValue9
  t26 := Tryz.underlying94
  a26 := Tryz.isAgg94
  z26 := Tryz.sizeOf94
  v26 := Tryz.zeroValue94
  t27 := Tryz.underlying94
  a27 := Tryz.isAgg94
  z27 := Tryz.sizeOf94
  v27 := Tryz.zeroValue94
  t29 := Tryz.underlying9
  a29 := Tryz.isAgg9
  z29 := Tryz.sizeOf9
  v29 := Tryz.zeroValue9
  t32 := Tryz.underlying223
  a32 := Tryz.isAgg223
  z32 := Tryz.sizeOf223
  v32 := Tryz.zeroValue223
  t35 := Tryz.underlying276
  a35 := Tryz.isAgg276
  z35 := Tryz.sizeOf276
  v35 := Tryz.zeroValue276
  t36 := Tryz.underlying277
  a36 := Tryz.isAgg277
  z36 := Tryz.sizeOf277
  v36 := Tryz.zeroValue277
  t41 := Tryz.underlying194
  a41 := Tryz.isAgg194
  z41 := Tryz.sizeOf194
  v41 := Tryz.zeroValue194
  t44 := Tryz.underlying284
  a44 := Tryz.isAgg284
  z44 := Tryz.sizeOf284
  v44 := Tryz.zeroValue284
  t46 := Tryz.underlying110
  a46 := Tryz.isAgg110
  z46 := Tryz.sizeOf110
  v46 := Tryz.zeroValue110
  t53 := Tryz.underlying287
  a53 := Tryz.isAgg287
  z53 := Tryz.sizeOf287
  v53 := Tryz.zeroValue287
  t57 := Tryz.underlying291
  a57 := Tryz.isAgg291
  z57 := Tryz.sizeOf291
  v57 := Tryz.zeroValue291
  t63 := Tryz.underlying298
  a63 := Tryz.isAgg298
  z63 := Tryz.sizeOf298
  v63 := Tryz.zeroValue298
  t64 := Tryz.underlying299
  a64 := Tryz.isAgg299
  z64 := Tryz.sizeOf299
  v64 := Tryz.zeroValue299 }

/-- slices.Sort's two contracts at this dump, at the fence that asks nothing. -/
theorem Tryz.sortsL (m : Nat) : AnyZ.SortsIn Tryz.prog Tryz.sortedL_ren Fence.wide m :=
  ⟨fun blk off cap ss W hH hblk hsz => callsIn_wide.2 (AnyM.slices_Sort_string Tryz.sortL blk off cap ss W hH hblk hsz),
   fun p cap W => callsIn_wide.2 (AnyM.slices_Sort_string_none Tryz.sortL p cap W)⟩

/-- **maps.Keys[map[string]tegula/family.volume,string,tegula/family.volume], at whatever map, the nil one too:** a function value over ONE NEW BLOCK, which holds the map. -/
theorem Tryz.mapsKeys (mb : Option Nat) (W : World) : CallsIn Fence.wide 5 Tryz.prog 86 #[.map mb] W fun e w' => e = .returned (.func (.func 148) #[] #[.pointer (some ⟨W.heap.size, 0, none⟩)]) ∧ w' = W.alloc (.cells #[.map mb] 74) :=
  AnyZ.keys_in Tryz.keysL Fence.wide 5 trivial rfl mb W

set_option maxHeartbeats 1000000 in
/-- **slices.Sorted[string] AT WHAT maps.Keys[map[string]tegula/family.volume,string,tegula/family.volume] HANDED BACK FOR A MAP THAT IS NOT nil** ('w': the world AHEAD of maps.Keys' call): A NEW SLICE THAT HOLDS THE MAP's KEYS, SORTED; nil just where it has none; nothing that lay before has turned. -/
theorem Tryz.sortedKeys {H : Type} (b nn : Nat) (D0 : DataW H) (R : Value → Option (DataW H × List MemPlace)) (w : World) (hown : w.ownsMap Tryz.prog 9 R b nn D0) (hmax : Maps.size D0 ≤ maxLen) (hbytes : Maps.size D0 * 16 ≤ 140737488355328) :
    CallsIn Fence.wide 5 Tryz.prog 85 #[.func (.func 148) #[] #[.pointer (some ⟨w.heap.size, 0, none⟩)]] (w.alloc (.cells #[.map (some b)] 74)) fun e w' => ∃ (v : Value) (ss : List (List UInt8)), e = .returned v ∧ ss.Perm (strKeys D0) ∧
      w'.ownsRow (w.alloc (.cells #[.map (some b)] 74)).heap.size 9 1 v ss.length ((ss.mergeSort (fun x y => decide (x ≤ y))).map encStr) ∧ (v = .slice none 0 0 ↔ ss = []) ∧ Below (w.alloc (.cells #[.map (some b)] 74)).heap.size (w.alloc (.cells #[.map (some b)] 74)) w' := by
  have hbl := hown.lt
  have hseq : SeqGives Fence.wide 2 Tryz.prog 148 #[.pointer (some ⟨w.heap.size, 0, none⟩)] encStr (fun ss => ss.Perm (strKeys D0)) (Maps.size D0) (w.alloc (.cells #[.map (some b)] 74)) :=
    AnyZ.keys_gives (ρ := Tryz.keysL_ren) { Tryz.keysL with } Fence.wide _ trivial rfl (by omega) w.heap.size b nn D0 _ (by simp) (by simp) (by
      obtain ⟨es, clock, hb, Ft, hs, hD⟩ := hown
      exact ⟨es, clock, (Below.heap_alloc _ _ b hbl).trans hb, Ft, hs, hD⟩)
  exact AnyZ.sorted_in Tryz.sortedL Fence.wide 5 trivial trivial trivial trivial rfl (by omega) (Tryz.sortsL _) (enters_of Tryz.func147 (by kernel_rfl) rfl) 148 #[.pointer (some ⟨w.heap.size, 0, none⟩)] trivial (enters_of Tryz.func148 (by kernel_rfl) rfl) _ _ hmax hbytes _ hseq

set_option maxHeartbeats 1000000 in
/-- **.. AND FOR THE nil MAP: nil.** -/
theorem Tryz.sortedKeysNil (w : World) :
    CallsIn Fence.wide 5 Tryz.prog 85 #[.func (.func 148) #[] #[.pointer (some ⟨w.heap.size, 0, none⟩)]] (w.alloc (.cells #[.map none] 74)) fun e w' => ∃ (v : Value) (ss : List (List UInt8)), e = .returned v ∧ ss = [] ∧
      w'.ownsRow (w.alloc (.cells #[.map none] 74)).heap.size 9 1 v ss.length ((ss.mergeSort (fun x y => decide (x ≤ y))).map encStr) ∧ (v = .slice none 0 0 ↔ ss = []) ∧ Below (w.alloc (.cells #[.map none] 74)).heap.size (w.alloc (.cells #[.map none] 74)) w' := by
  have hseq : SeqGives Fence.wide 2 Tryz.prog 148 #[.pointer (some ⟨w.heap.size, 0, none⟩)] encStr (fun ss : List (List UInt8) => ss = []) 0 (w.alloc (.cells #[.map none] 74)) :=
    AnyZ.keys_gives_nil (ρ := Tryz.keysL_ren) { Tryz.keysL with } Fence.wide _ trivial rfl w.heap.size _ (by simp) (by simp)
  exact AnyZ.sorted_in Tryz.sortedL Fence.wide 5 trivial trivial trivial trivial rfl (by omega) (Tryz.sortsL _) (enters_of Tryz.func147 (by kernel_rfl) rfl) 148 #[.pointer (some ⟨w.heap.size, 0, none⟩)] trivial (enters_of Tryz.func148 (by kernel_rfl) rfl) _ 0 (Nat.zero_le _) (by omega) _ hseq

end Go.Proofs.YtbfdnfkflnajlaaGreat
