/-
  slices.Grow and slices.Concat of extents.
-/
import Derived.Test.YtbfdnfkflnajlaaGreatJ20
import Derived.Shelf.Spec.SlicesGrow
import Derived.Ground.Names8Prog
set_option linter.unusedVariables false
set_option linter.unusedSimpArgs false
/-! slices.Grow and slices.Concat of extents. -/
namespace Go.Proofs.YtbfdnfkflnajlaaGreat
open Go.Shelf Go.RowKit Go.Lib
open Ext hiding One

def Tryz.growL_ren : Go.Shelf.Ren := ⟨fun | 4 => 204 | n => n, fun | 22 => 40 | 25 => 105 | 3 => 3 | 4 => 4 | 9 => 9 | 20 => 20 | 0 => 0 | n => n, fun | n => n⟩
theorem Tryz.growL : Go.Proofs.Lays8.n4 Tryz.prog Tryz.growL_ren := {
  mixed := by kernel_rfl
  f4 := ⟨Tryz.f204.name, by decide, Tryz.func204.trans (congrArg some (by kernel_rfl))⟩
  t0 := Tryz.underlying0
  a0 := Tryz.isAgg0
  z0 := Tryz.sizeOf0
  v0 := Tryz.zeroValue0
  t3 := Tryz.underlying3
  a3 := Tryz.isAgg3
  z3 := Tryz.sizeOf3
  v3 := Tryz.zeroValue3
  t4 := Tryz.underlying4
  a4 := Tryz.isAgg4
  z4 := Tryz.sizeOf4
  v4 := Tryz.zeroValue4
  t9 := Tryz.underlying9
  a9 := Tryz.isAgg9
  z9 := Tryz.sizeOf9
  v9 := Tryz.zeroValue9
  t20 := Tryz.underlying20
  a20 := Tryz.isAgg20
  z20 := Tryz.sizeOf20
  v20 := Tryz.zeroValue20
  t22 := Tryz.underlying40
  a22 := Tryz.isAgg40
  z22 := Tryz.sizeOf40
  v22 := Tryz.zeroValue40 }

set_option maxRecDepth 100000 in
set_option maxHeartbeats 1000000 in
theorem grow_ext_any {n : Nat} {W0 : World} (hn : n ≤ 1000000) :
    Calls Tryz.prog 204 #[.slice none 0 0, .int .i64 n] W0 (RetE W0.heap.size [] W0) := by
  by_cases h0 : n = 0
  · subst h0
    refine (Any8.slices_Grow_room Tryz.growL none 0 0 0 W0 (by omega) (by omega) (by omega) (by omega)).mono ?_
    rintro e w' ⟨rfl, rfl⟩
    exact ⟨_, rfl, OwnE.nil _ _, Grw.self _⟩
  · obtain ⟨i0, hi, hz0, hz1, hz2⟩ := info_parts infoE
    refine (Any8.slices_Grow_grow Tryz.growL i0 _ hi hz0 (by omega) none 0 0 n [] W0 (by omega) (by omega) (by rw [hz2]; omega) (by omega) (by simp) (by simp) (fun a h => by cases h)).mono ?_
    rintro e w' ⟨rfl, rfl⟩
    refine ⟨_, rfl, ?_, (Grw.drw W0).alc _⟩
    exact World.ownsRow_made W0.drew _ _ (Nat.le_refl _) (grownCap_le_maxLen _ _ _ _ (by unfold maxLen; omega)) (by
      have h := grownCap_ge W0 (0 + n) 0 (Tryz.growL_ren.t 25)
      generalize grownCap W0 (0 + n) 0 (Tryz.growL_ren.t 25) = G at h ⊢
      have h3 : (Value.agg #[.int .i64 0, .int .i64 0, .int .i64 0]).cells.size = 3 := rfl
      simp only [Builtin.zeroCells, Array.size_append, Array.size_flatten, h3]
      simp [h3]
      omega)
set_option maxRecDepth 100000 in
set_option maxHeartbeats 2000000 in
theorem sconcat_any {l1 l2 : List Ext} {v1 v2 : Value} {W0 : World} {B : Nat} (hb : W0.heap[B]? = some (.cells #[v1, v2] 40 (0, 0))) (h1 : Exts W0 v1 l1) (h2 : Exts W0 v2 l2) (hlen : l1.length + l2.length ≤ 1000000) :
    Calls Tryz.prog 161 #[.slice (some ⟨B, 0, none⟩) 2 2] W0 (RetE W0.heap.size (l1 ++ l2) W0) := by
  have c1 := fun (W : World) => grow_ext_any (n := l1.length + l2.length) (W0 := W) hlen
  have hx1 := h1
  have hx2 := h2
  obtain ⟨A1, p1, rfl, -, -, -⟩ := h1.shape
  obtain ⟨A2, p2, rfl, -, -, -⟩ := h2.shape
  have u0 := blk_cell hb 0
  have u1 := blk_cell hb 1
  simp only [List.getElem?_toArray, List.getElem?_cons_zero, List.getElem?_cons_succ] at u0 u1
  have hw1 : IntKind.i64.wrap ((0 : Int) + l1.length) = l1.length := by rw [Int.zero_add]; exact wrapI (by omega) (by omega)
  have hw2 : IntKind.i64.wrap ((l1.length : Int) + l2.length) = (l1.length : Int) + l2.length := wrapI (by omega) (by omega)
  have hn : ¬ ((l1.length : Int) + l2.length < 0) := by omega
  have hn1 : ¬ ((l1.length : Int) < 0) := by omega
  clear h1 h2
  go_enter Tryz.func161, Tryz.ntmps161
  go_wp2
  go_loopg [3, 11] 2 (fun g s i wr => ((g = 2 ∧ s = .int .i64 0 ∧ i = .int .i64 0) ∨ (g = 1 ∧ s = .int .i64 l1.length ∧ i = .int .i64 1) ∨ (g = 0 ∧ s = .int .i64 ((l1.length : Int) + l2.length) ∧ i = .int .i64 2)) ∧ Grw W0 wr)
  case atStart => exact ⟨.inl ⟨rfl, rfl, rfl⟩, Grw.self _⟩
  case round =>
    obtain ⟨hcase, hg⟩ := hrel
    have q0 := Grw.cell u0 _ hg
    have q1 := Grw.cell u1 _ hg
    rcases hcase with ⟨rfl, rfl, rfl⟩ | ⟨rfl, rfl, rfl⟩ | ⟨rfl, rfl, rfl⟩
    · go_wp2
      go_roundg 1
      case measure => omega
      case rel => exact ⟨.inr (.inl ⟨rfl, by simp, rfl⟩), hg⟩
    · go_wp2
      go_roundg 0
      case measure => omega
      case rel => exact ⟨.inr (.inr ⟨rfl, rfl, rfl⟩), hg⟩
    · go_wp2_with (go_at_call 204; refine (c1 _).mono ?_; clear c1; rintro e w1 ⟨v3, rfl, ho3, g3⟩)
      have hg3 := hg.then g3
      have ho4 := own_low ho3 hg.size
      clear ho3
      obtain ⟨A3, p3, rfl, -⟩ := own_cap ho4
      go_loopg [6, 27] 2 (fun g s i wx => ((g = 2 ∧ i = .int .i64 0 ∧ OwnE wx W0.heap.size s []) ∨ (g = 1 ∧ i = .int .i64 1 ∧ OwnE wx W0.heap.size s l1) ∨ (g = 0 ∧ i = .int .i64 2 ∧ OwnE wx W0.heap.size s (l1 ++ l2))) ∧ Grw W0 wx)
      case atStart => exact ⟨.inl ⟨rfl, rfl, ho4⟩, hg3⟩
      case round =>
        clear ho4 q0 q1
        obtain ⟨hcase, hgx⟩ := hrel
        have q0 := Grw.cell u0 _ hgx
        have q1 := Grw.cell u1 _ hgx
        rcases hcase with ⟨rfl, rfl, ho⟩ | ⟨rfl, rfl, ho⟩ | ⟨rfl, rfl, ho⟩
        · obtain ⟨A4, p4, rfl, -⟩ := own_cap ho
          have hxx := hx1.grw hgx
          have hs := hgx.size
          go_wp2_with (at_builtin; refine wpList_app rfl _ _ rfl W0.heap.size _ _ [] l1 rfl ho rfl hxx (by simp; omega) hs ?_; intro v9 w9 ho9 hgrow)
          go_roundg 1
          case measure => omega
          case rel => exact ⟨.inr (.inl ⟨rfl, rfl, ho9⟩), grw_own hgx ho (Nat.le_refl _) hgrow⟩
        · obtain ⟨A4, p4, rfl, -⟩ := own_cap ho
          have hxx := hx2.grw hgx
          have hs := hgx.size
          go_wp2_with (at_builtin; refine wpList_app rfl _ _ rfl W0.heap.size _ _ l1 l2 rfl ho rfl hxx hlen hs ?_; intro v9 w9 ho9 hgrow)
          go_roundg 0
          case measure => omega
          case rel => exact ⟨.inr (.inr ⟨rfl, rfl, ho9⟩), grw_own hgx ho (Nat.le_refl _) hgrow⟩
        · obtain ⟨A4, p4, rfl, -⟩ := own_cap ho
          go_wp2
          go_ret
          exact ⟨_, rfl, ho, hgx⟩
end Go.Proofs.YtbfdnfkflnajlaaGreat
