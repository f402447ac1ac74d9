/-
  slices.SortFunc of extents by their slots.
-/
import Derived.Test.YtbfdnfkflnajlaaGreatJ02
import Derived.Test.YtbfdnfkflnajlaaGreatJ10
import Derived.Shelf.SlSortCmp.WholeK
import Derived.Shelf.SlSortCmp.NoneTotal
import Derived.Ground.SlsfProg
import Derived.Sort.OwnSorted
set_option linter.unusedVariables false
set_option linter.unusedSimpArgs false
/-! slices.SortFunc of extents by their slots. -/
namespace Go.Proofs.YtbfdnfkflnajlaaGreat
open Go.Shelf Go.RowKit Go.Lib Go.Sort
open Ext hiding One

def Tryz.sortExt_ren : Go.Shelf.Ren := ⟨fun | 6 => 201 | 15 => 190 | 14 => 230 | 28 => 225 | 29 => 226 | 20 => 239 | 21 => 240 | 22 => 241 | 23 => 242 | 24 => 243 | 25 => 244 | 26 => 245 | 27 => 246 | 46 => 248 | 47 => 233 | 48 => 234 | 49 => 249 | 50 => 250 | 57 => 251 | n => n, fun | 22 => 40 | 24 => 105 | 25 => 265 | 3 => 3 | 39 => 223 | 0 => 0 | 53 => 284 | 55 => 110 | 4 => 4 | 46 => 277 | 45 => 276 | 50 => 194 | 5 => 5 | 9 => 9 | 66 => 287 | 70 => 291 | 76 => 298 | 77 => 299 | n => n, fun | n => n⟩
theorem Tryz.sortExt : Go.Proofs.SlLaysF0.n6 Tryz.prog Tryz.sortExt_ren := {
  mixed := by kernel_rfl
  f6 := ⟨Tryz.f201.name, by decide, Tryz.func201.trans (congrArg some (by kernel_rfl))⟩
  f14 := ⟨Tryz.f230.name, by decide, Tryz.func230.trans (congrArg some (by kernel_rfl))⟩
  f15 := Tryz.func190.trans (congrArg some (by kernel_rfl))
  f20 := ⟨Tryz.f239.name, by decide, Tryz.func239.trans (congrArg some (by kernel_rfl))⟩
  f21 := ⟨Tryz.f240.name, by decide, Tryz.func240.trans (congrArg some (by kernel_rfl))⟩
  f22 := ⟨Tryz.f241.name, by decide, Tryz.func241.trans (congrArg some (by kernel_rfl))⟩
  f23 := ⟨Tryz.f242.name, by decide, Tryz.func242.trans (congrArg some (by kernel_rfl))⟩
  f24 := ⟨Tryz.f243.name, by decide, Tryz.func243.trans (congrArg some (by kernel_rfl))⟩
  f25 := ⟨Tryz.f244.name, by decide, Tryz.func244.trans (congrArg some (by kernel_rfl))⟩
  f26 := ⟨Tryz.f245.name, by decide, Tryz.func245.trans (congrArg some (by kernel_rfl))⟩
  f27 := ⟨Tryz.f246.name, by decide, Tryz.func246.trans (congrArg some (by kernel_rfl))⟩
  f28 := Tryz.func225.trans (congrArg some (by kernel_rfl))
  f29 := Tryz.func226.trans (congrArg some (by kernel_rfl))
  f46 := ⟨Tryz.f248.name, by decide, Tryz.func248.trans (congrArg some (by kernel_rfl))⟩
  f47 := Tryz.func233.trans (congrArg some (by kernel_rfl))
  f48 := Tryz.func234.trans (congrArg some (by kernel_rfl))
  f49 := ⟨Tryz.f249.name, by decide, Tryz.func249.trans (congrArg some (by kernel_rfl))⟩
  f50 := ⟨Tryz.f250.name, by decide, Tryz.func250.trans (congrArg some (by kernel_rfl))⟩
  f57 := ⟨Tryz.f251.name, by decide, Tryz.func251.trans (congrArg some (by kernel_rfl))⟩
  t0 := Tryz.underlying0
  a0 := Tryz.isAgg0
  z0 := Tryz.sizeOf0
  v0 := Tryz.zeroValue0
  t3 := Tryz.underlying3
  a3 := Tryz.isAgg3
  z3 := Tryz.sizeOf3
  v3 := Tryz.zeroValue3
  t4 := Tryz.underlying4
  a4 := Tryz.isAgg4
  z4 := Tryz.sizeOf4
  v4 := Tryz.zeroValue4
  t5 := Tryz.underlying5
  a5 := Tryz.isAgg5
  z5 := Tryz.sizeOf5
  v5 := Tryz.zeroValue5
  t9 := Tryz.underlying9
  a9 := Tryz.isAgg9
  z9 := Tryz.sizeOf9
  v9 := Tryz.zeroValue9
  t22 := Tryz.underlying40
  a22 := Tryz.isAgg40
  z22 := Tryz.sizeOf40
  v22 := Tryz.zeroValue40
  t25 := Tryz.underlying265
  a25 := Tryz.isAgg265
  z25 := Tryz.sizeOf265
  v25 := Tryz.zeroValue265
  t39 := Tryz.underlying223
  a39 := Tryz.isAgg223
  z39 := Tryz.sizeOf223
  v39 := Tryz.zeroValue223
  t45 := Tryz.underlying276
  a45 := Tryz.isAgg276
  z45 := Tryz.sizeOf276
  v45 := Tryz.zeroValue276
  t46 := Tryz.underlying277
  a46 := Tryz.isAgg277
  z46 := Tryz.sizeOf277
  v46 := Tryz.zeroValue277
  t50 := Tryz.underlying194
  a50 := Tryz.isAgg194
  z50 := Tryz.sizeOf194
  v50 := Tryz.zeroValue194
  t53 := Tryz.underlying284
  a53 := Tryz.isAgg284
  z53 := Tryz.sizeOf284
  v53 := Tryz.zeroValue284
  t55 := Tryz.underlying110
  a55 := Tryz.isAgg110
  z55 := Tryz.sizeOf110
  v55 := Tryz.zeroValue110
  t66 := Tryz.underlying287
  a66 := Tryz.isAgg287
  z66 := Tryz.sizeOf287
  v66 := Tryz.zeroValue287
  t70 := Tryz.underlying291
  a70 := Tryz.isAgg291
  z70 := Tryz.sizeOf291
  v70 := Tryz.zeroValue291
  t76 := Tryz.underlying298
  a76 := Tryz.isAgg298
  z76 := Tryz.sizeOf298
  v76 := Tryz.zeroValue298
  t77 := Tryz.underlying299
  a77 := Tryz.isAgg299
  z77 := Tryz.sizeOf299
  v77 := Tryz.zeroValue299 }

theorem cmp_lays (blk off size : Nat) (w : World) : CmpLays Tryz.prog 202 #[] extC 3 (fun x y => cmpI x.slot y.slot) blk off size w :=
  fun _ _ _ _ x y => (runs2_any x y _).mono (by rintro e w' ⟨he, rfl⟩; exact ⟨he, 0, _, by rw [alloc_eq_grow, alloc_eq_grow, grow_grow]; rfl⟩)
theorem cmpI_lt {a b : Int} : decide (cmpI a b < 0) = decide (a < b) := by
  unfold cmpI
  split
  · simp_all
  · split <;> simp_all
theorem swo_ext : SWO (ltOf fun x y : Ext => cmpI x.slot y.slot) :=
  ⟨fun x => by unfold ltOf; rw [cmpI_lt]; simp,
   fun x y z h1 h2 => by unfold ltOf at *; rw [cmpI_lt] at *; simp only [decide_eq_true_eq] at *; omega,
   fun x y z h1 h2 => by unfold ltOf at *; rw [cmpI_lt] at *; simp only [decide_eq_false_iff_not] at *; omega⟩
theorem flatK_ext (d : Array Ext) : (flatK extC 3 d).toList = flat extC d.toList := by
  apply List.ext_getElem?
  intro t
  have hl : (flat extC d.toList).length = d.size * 3 := by rw [flat_length extC_len]; simp
  by_cases ht : t < d.size * 3
  · have hq : t / 3 < d.size := by omega
    have h1 : d.toList[t / 3]? = some d[t / 3] := by rw [Array.getElem?_toList]; exact Array.getElem?_eq_getElem hq
    have h2 := flat_get extC_len d.toList (t / 3) d[t / 3] (t % 3) h1 (by omega)
    rw [show t / 3 * 3 + t % 3 = t by omega] at h2
    rw [h2, Array.getElem?_toList]
    have h3 := get_flatK extC 3 d t ht
    rw [getElem!_pos _ t (by rw [size_flatK]; exact ht), getElem!_pos _ (t / 3) hq] at h3
    rw [Array.getElem?_eq_getElem (by rw [size_flatK]; exact ht), h3]
    have h4 : t % 3 < (extC d[t / 3]).length := by rw [extC_len]; omega
    rw [getElem!_pos (extC d[t / 3]) (t % 3) h4, List.getElem?_eq_getElem h4]
  · rw [List.getElem?_eq_none (by rw [Array.length_toList, size_flatK]; omega), List.getElem?_eq_none (by omega)]
theorem heap_sortedK {w : World} {g n : Nat} {os : Array Obj} {cur : Array Value} {e : TypeId} {fr : Nat × Nat} (d : Array Ext) (hb : w.heap[g]? = some (.cells cur e fr)) :
    (sortWorldK extC 3 w g 0 n d os).heap[g]? = some (.cells (putCells id 0 (flatK extC 3 d) cur) e fr) := by
  have hg : g < w.heap.size := (Array.getElem?_eq_some_iff.1 hb).1
  unfold sortWorldK putRowK
  rw [heap_grow_old _ _ (by simpa using hg)]
  simp [putRow, mapBlock, Sort.ahead, Array.getElem?_modify, hb, onCells]
theorem grownBy_sortedK {w : World} {g n : Nat} {os : Array Obj} (d : Array Ext) : w.grownBy (sortWorldK extC 3 w g 0 n d os) (some g) := by
  unfold sortWorldK putRowK
  refine ⟨rfl, rfl, rfl, by simp, fun k hk hne => ?_⟩
  rw [heap_grow_old _ _ (by simpa using hk)]
  have : g ≠ k := fun e => hne (by rw [e])
  simp [putRow, mapBlock, Sort.ahead, Array.getElem?_modify, this]
theorem take_putCellsK (cur F : Array Value) (h : F.size ≤ cur.size) : (putCells id 0 F cur).toList.take F.size = F.toList := by
  apply List.ext_getElem?
  intro j
  by_cases hj : j < F.size
  · rw [List.getElem?_take_of_lt hj, Array.getElem?_toList, Array.getElem?_toList]
    simp [putCells, hj, show j < cur.size by omega]
  · rw [List.getElem?_take_eq_none (by omega), List.getElem?_eq_none (by simp; omega)]
def slotLe (a b : Ext) : Prop := a.slot ≤ b.slot
/-- a row of the call's own is sorted by its slots. -/
def RetSort (base : Nat) (v : Value) (l : List Ext) (w : World) (e : Ending) (w' : World) : Prop := e = .returned (.tuple #[]) ∧ ∃ l', l.Perm l' ∧ l'.Pairwise slotLe ∧ OwnE w' base v l' ∧ w.grownBy w' v.ownBlock
theorem permIn_all {l : List Ext} {d' : Array Ext} (h : PermIn 0 l.toArray.size l.toArray d') : l.Perm d'.toList := by
  obtain ⟨h1, _, h3⟩ := h
  have e1 : (d'.extract 0 l.toArray.size).toList = d'.toList := by rw [← h1]; simp
  have e2 : (l.toArray.extract 0 l.toArray.size).toList = l := by simp
  rw [e1, e2] at h3
  exact h3.symm
theorem sort_any {base : Nat} {v : Value} {l : List Ext} {W0 : World} (h : OwnE W0 base v l) (hn : l.length ≤ 1000000) :
    Calls Tryz.prog 201 #[v, .func (.func 202) #[] #[]] W0 (RetSort base v l W0) := by
  rcases h.2 with ⟨rfl, h0⟩ | ⟨g, cap, cur, rfl, hbase, hb, h1, h2, h3, h4⟩
  · obtain rfl := List.eq_nil_of_length_eq_zero h0
    refine Calls.mono (AnyF.slices_SortFunc_none { Tryz.sortExt with } none 0 _ W0) ?_
    rintro e w' ⟨rfl, rfl⟩
    exact ⟨rfl, [], List.Perm.nil, List.Pairwise.nil, OwnE.nil _ _, ⟨rfl, rfl, rfl, Nat.le_refl _, fun _ _ _ => rfl⟩⟩
  · have hg : g < W0.heap.size := (Array.getElem?_eq_some_iff.1 hb).1
    have hH : HoldsK extC 3 W0 g 0 l.toArray := by
      intro j hj
      rw [size_flatK] at hj
      refine ⟨?_, by simp [World.frozen?, hb]⟩
      have e1 := flatK_ext l.toArray
      rw [← h4] at e1
      have e2 : (flatK extC 3 l.toArray).toList[j]? = cur.toList[j]? := by
        rw [e1, List.getElem?_take_of_lt (by simpa using hj)]
      rw [blk_cell hb, Nat.zero_add, ← Array.getElem?_toList, ← e2, Array.getElem?_toList, Array.getElem?_eq_getElem (by rw [size_flatK]; exact hj), getElem!_pos _ j (by rw [size_flatK]; exact hj)]
      rfl
    have eg : ∀ args w, (callFunc 202 args).run Tryz.prog w = .ok (.enter 202 args) w := enters_of Tryz.func202 (by kernel_rfl) rfl
    have hc := AnyQ.slices_SortFunc Tryz.sortExt 3 (fun _ => by kernel_rfl) (fun _ => by kernel_rfl) extC extC_len ext_one (fun x y => cmpI x.slot y.slot) swo_ext 202 #[] g 0 cap l.toArray W0 eg (cmp_lays g 0 l.toArray.size W0) hH hg (by simp; omega)
    refine Calls.mono hc ?_
    rintro e w' ⟨rfl, d', n, os, hp, hs, rfl⟩
    have hperm := permIn_all hp
    have hsz : d'.size = l.length := by simpa using hperm.length_eq.symm
    refine ⟨rfl, d'.toList, hperm, ?_, ?_, grownBy_sortedK d'⟩
    · rw [List.pairwise_iff_getElem]
      intro i j hi hj hij
      have := hs i j (Nat.zero_le _) hij (by simp at hj ⊢; omega)
      unfold ltOf at this
      rw [cmpI_lt, decide_eq_false_iff_not, getElem!_pos _ j (by simpa using hj), getElem!_pos _ i (by simpa using hi)] at this
      unfold slotLe
      simp only [Array.getElem_toList]
      omega
    · have e3 : d'.toList.length = l.length := by simpa using hsz
      unfold OwnE
      rw [e3]
      refine ⟨by rw [flat_length extC_len, e3], .inr ⟨g, cap, _, rfl, hbase, heap_sortedK d' hb, h1, h2, by simp [putCells, h3], ?_⟩⟩
      have := take_putCellsK cur (flatK extC 3 d') (by rw [size_flatK, h3, hsz]; exact Nat.mul_le_mul_right _ h1)
      rw [size_flatK, hsz, flatK_ext] at this
      exact this
end Go.Proofs.YtbfdnfkflnajlaaGreat
