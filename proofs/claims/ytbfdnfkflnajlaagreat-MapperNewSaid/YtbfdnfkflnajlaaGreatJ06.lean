/-
  The walks over the trees of extents: depth, size, blocks; build, balance, join. balance, join. join: by induction on the number of nodes. Slices: what is read, what is owned; extents as rows of three cells.
-/
import Derived.Test.YtbfdnfkflnajlaaGreatJ01
import Derived.Test.YtbfdnfkflnajlaaGreatJ05
import Derived.Test.YtbfdnfkflnajlaaGreatProg
import Derived.WalkKit
import Derived.WalkSpells
import Derived.WalkLawsBesides
import Derived.BigRegion
import Derived.BigCall
import Derived.IntWalk
import Derived.KernelRfl
import Derived.Maps.AppendAt
import Derived.OwnWalk
import Derived.Laws.OwnMore
set_option linter.unusedVariables false
set_option linter.unusedSimpArgs false
/-! The walks over the trees of extents: depth, size, blocks; build, balance, join. -/
namespace Go.Proofs.YtbfdnfkflnajlaaGreat
open Go.RowKit

/-- A tree of extents lies at a pointer. -/
def IsT (w : World) : Option Addr → Tr → Prop
  | p, .nil => p = none
  | p, .node l x r => ∃ b lp rp, p = some ⟨b, 0, none⟩ ∧ w.heap[b]? = some (.cells #[.int .i64 x.at_, .int .i64 x.len, .int .i64 x.slot, .pointer lp, .pointer rp, .int .i64 (Tr.node l x r).deep, .int .i64 (Tr.node l x r).cnt, .int .i64 (Tr.node l x r).blocks] 241 (0, 0)) ∧ IsT w lp l ∧ IsT w rp r
theorem IsT.grw {w w' : World} (hg : Grw w w') : ∀ {t : Tr} {p : Option Addr}, IsT w p t → IsT w' p t
  | .nil, _, h => h
  | .node l x r, p, h => by
    obtain ⟨b, lp, rp, e, hb, hl, hr⟩ := h
    exact ⟨b, lp, rp, e, hg.blk hb, IsT.grw hg hl, IsT.grw hg hr⟩
abbrev extV (x : Ext) : Value := .agg #[.int .i64 x.at_, .int .i64 x.len, .int .i64 x.slot]
def RetT (t : Tr) (w : World) (e : Ending) (w' : World) : Prop := ∃ p, e = .returned (.pointer p) ∧ IsT w' p t ∧ Grw w w'

set_option maxHeartbeats 400000 in
theorem deep_any {p : Option Addr} {t : Tr} {w W : World} (h : IsT w p t) (hg : Grw w W) :
    Calls Tryz.prog 227 #[.pointer p] W fun e w' => e = .returned (.int .i64 t.deep) ∧ W = w' := by
  cases t with
  | nil =>
    obtain rfl : p = none := h
    go_enter Tryz.func227, Tryz.ntmps227
    go_wp2
    go_ret
    exact ⟨rfl, rfl⟩
  | node l x r =>
    obtain ⟨b, lp, rp, rfl, hb, hl, hr⟩ := h
    have c5 := Grw.cells hb 5 W hg
    simp only [List.getElem?_toArray, List.getElem?_cons_succ, List.getElem?_cons_zero] at c5
    go_enter Tryz.func227, Tryz.ntmps227
    go_wp2
    go_ret
    exact ⟨rfl, rfl⟩
set_option maxHeartbeats 400000 in
theorem size_any {p : Option Addr} {t : Tr} {w W : World} (h : IsT w p t) (hg : Grw w W) :
    Calls Tryz.prog 238 #[.pointer p] W fun e w' => e = .returned (.int .i64 t.cnt) ∧ W = w' := by
  cases t with
  | nil =>
    obtain rfl : p = none := h
    go_enter Tryz.func238, Tryz.ntmps238
    go_wp2
    go_ret
    exact ⟨rfl, rfl⟩
  | node l x r =>
    obtain ⟨b, lp, rp, rfl, hb, hl, hr⟩ := h
    have c5 := Grw.cells hb 6 W hg
    simp only [List.getElem?_toArray, List.getElem?_cons_succ, List.getElem?_cons_zero] at c5
    go_enter Tryz.func238, Tryz.ntmps238
    go_wp2
    go_ret
    exact ⟨rfl, rfl⟩
set_option maxHeartbeats 400000 in
theorem mapped_any {p : Option Addr} {t : Tr} {w W : World} (h : IsT w p t) (hg : Grw w W) :
    Calls Tryz.prog 150 #[.pointer p] W fun e w' => e = .returned (.int .i64 t.blocks) ∧ W = w' := by
  cases t with
  | nil =>
    obtain rfl : p = none := h
    go_enter Tryz.func150, Tryz.ntmps150
    go_wp2
    go_ret
    exact ⟨rfl, rfl⟩
  | node l x r =>
    obtain ⟨b, lp, rp, rfl, hb, hl, hr⟩ := h
    have c5 := Grw.cells hb 7 W hg
    simp only [List.getElem?_toArray, List.getElem?_cons_succ, List.getElem?_cons_zero] at c5
    go_enter Tryz.func150, Tryz.ntmps150
    go_wp2
    go_ret
    exact ⟨rfl, rfl⟩

/-- the three cells of a boxed extent. -/
theorem ext_cells {w : World} {b : Nat} {x : Ext} {t : TypeId} {fr : Nat × Nat} (h : w.heap[b]? = some (.cells #[.int .i64 x.at_, .int .i64 x.len, .int .i64 x.slot] t fr)) :
    (∀ B, Grw w B → B.cell? ⟨b, 0, none⟩ = some (.int .i64 x.at_)) ∧ (∀ B, Grw w B → B.cell? ⟨b, 1, none⟩ = some (.int .i64 x.len)) ∧ (∀ B, Grw w B → B.cell? ⟨b, 2, none⟩ = some (.int .i64 x.slot)) :=
  ⟨Grw.cells h 0, Grw.cells h 1, Grw.cells h 2⟩
/-- the cells of a node. -/
theorem node_cells {w : World} {b : Nat} {x : Ext} {lp rp : Option Addr} {d c k : Int} {t : TypeId} {fr : Nat × Nat} (h : w.heap[b]? = some (.cells #[.int .i64 x.at_, .int .i64 x.len, .int .i64 x.slot, .pointer lp, .pointer rp, .int .i64 d, .int .i64 c, .int .i64 k] t fr)) :
    (∀ B, Grw w B → B.cell? ⟨b, 0, none⟩ = some (.int .i64 x.at_)) ∧ (∀ B, Grw w B → B.cell? ⟨b, 1, none⟩ = some (.int .i64 x.len)) ∧ (∀ B, Grw w B → B.cell? ⟨b, 2, none⟩ = some (.int .i64 x.slot)) ∧
    (∀ B, Grw w B → B.cell? ⟨b, 3, none⟩ = some (.pointer lp)) ∧ (∀ B, Grw w B → B.cell? ⟨b, 4, none⟩ = some (.pointer rp)) :=
  ⟨Grw.cells h 0, Grw.cells h 1, Grw.cells h 2, Grw.cells h 3, Grw.cells h 4⟩

theorem ext_cellsX {X : Nat → Prop} {w : World} {b : Nat} {x : Ext} {t : TypeId} {fr : Nat × Nat} (h : w.heap[b]? = some (.cells #[.int .i64 x.at_, .int .i64 x.len, .int .i64 x.slot] t fr)) (hx : ¬ X b) :
    (∀ B, GrwX X w B → B.cell? ⟨b, 0, none⟩ = some (.int .i64 x.at_)) ∧ (∀ B, GrwX X w B → B.cell? ⟨b, 1, none⟩ = some (.int .i64 x.len)) ∧ (∀ B, GrwX X w B → B.cell? ⟨b, 2, none⟩ = some (.int .i64 x.slot)) :=
  ⟨GrwX.cells h hx 0, GrwX.cells h hx 1, GrwX.cells h hx 2⟩
theorem node_cellsX {X : Nat → Prop} {w : World} {b : Nat} {x : Ext} {lp rp : Option Addr} {d c k : Int} {t : TypeId} {fr : Nat × Nat} (h : w.heap[b]? = some (.cells #[.int .i64 x.at_, .int .i64 x.len, .int .i64 x.slot, .pointer lp, .pointer rp, .int .i64 d, .int .i64 c, .int .i64 k] t fr)) (hx : ¬ X b) :
    (∀ B, GrwX X w B → B.cell? ⟨b, 0, none⟩ = some (.int .i64 x.at_)) ∧ (∀ B, GrwX X w B → B.cell? ⟨b, 1, none⟩ = some (.int .i64 x.len)) ∧ (∀ B, GrwX X w B → B.cell? ⟨b, 2, none⟩ = some (.int .i64 x.slot)) ∧
    (∀ B, GrwX X w B → B.cell? ⟨b, 3, none⟩ = some (.pointer lp)) ∧ (∀ B, GrwX X w B → B.cell? ⟨b, 4, none⟩ = some (.pointer rp)) :=
  ⟨GrwX.cells h hx 0, GrwX.cells h hx 1, GrwX.cells h hx 2, GrwX.cells h hx 3, GrwX.cells h hx 4⟩
/-- A store into a block of another type leaves a tree as it is. -/
theorem IsT.set {w : World} {b : Nat} {cs : Array Value} {t : TypeId} {fr : Nat × Nat} (hb : w.heap[b]? = some (.cells cs t fr)) (ht : t ≠ 241) (o : Nat) (v : Value) :
    ∀ {T : Tr} {p : Option Addr}, IsT w p T → IsT (w.setCell ⟨b, o, none⟩ v) p T
  | .nil, _, h => h
  | .node l x r, p, h => by
    obtain ⟨c, lp, rp, e, hc, hl, hr⟩ := h
    refine ⟨c, lp, rp, e, ?_, IsT.set hb ht o v hl, IsT.set hb ht o v hr⟩
    rw [Below.heap_setCell _ _ _ _ (show c ≠ b from fun e => ht (by subst e; rw [hb] at hc; injection hc with hc; injection hc))]
    exact hc
/-- A tree in a world of which own blocks have turned that were not there when the tree was. -/
theorem IsT.grwX {X : Nat → Prop} {w w' : World} (hg : GrwX X w w') (hX : ∀ i, X i → w.heap.size ≤ i) : ∀ {t : Tr} {p : Option Addr}, IsT w p t → IsT w' p t :=
  IsT.grw (hg.grw (Grw.self w) hX)

set_option maxRecDepth 100000 in
set_option maxHeartbeats 4000000 in
theorem build_any {p q : Option Addr} {l r : Tr} {x : Ext} {w1 w2 W0 : World} (hl : IsT w1 p l) (hr : IsT w2 q r) (hg1 : Grw w1 W0) (hg2 : Grw w2 W0) (hf : fitL (l.toL ++ x :: r.toL)) :
    Calls Tryz.prog 229 #[.pointer p, extV x, .pointer q] W0 (RetT (.node l x r) W0) := by
  obtain ⟨f1, f2, x1, x2⟩ := hf.mid
  obtain ⟨d1, a1, a2, a3, a4, a5⟩ := f1.bounds
  obtain ⟨d2, b1, b2, b3, b4, b5⟩ := f2.bounds
  clear f1 f2 hf
  replace hl := hl.grw hg1
  replace hr := hr.grw hg2
  clear hg1 hg2
  unfold extV
  obtain ⟨M, hM⟩ : ∃ M, (if l.deep < r.deep then r.deep else l.deep) = M := ⟨_, rfl⟩
  have hMb : 0 ≤ M ∧ M ≤ 1000000 := by rw [← hM]; split <;> omega
  obtain ⟨m1, m2⟩ := hMb
  go_enter Tryz.func229, Tryz.ntmps229
  go_wp2
  have hW := Grw.alloc W0 (.cells #[.int .i64 x.at_, .int .i64 x.len, .int .i64 x.slot] 105)
  obtain ⟨c0, c1, c2⟩ := ext_cells (alloc_blk W0 (.cells #[.int .i64 x.at_, .int .i64 x.len, .int .i64 x.slot] 105))
  generalize W0.alloc (.cells #[.int .i64 x.at_, .int .i64 x.len, .int .i64 x.slot] 105) = W at hW c0 c1 c2 ⊢
  have hl2 := hl.grw (hW.then (Grw.drw W))
  have hr2 := hr.grw (hW.then (Grw.drw W))
  refine gw_region [(0, true), (1, true), (2, true), (3, true), (5, true), (9, true), (12, true), (15, true), (16, true), (17, true), (20, true), (4, false), (6, false), (7, true), (8, true), (10, false), (11, true), (13, false), (14, true), (18, false), (19, true), (21, false), (22, true), (23, true), (24, false), (25, true)] (by kernel_rfl) (by kernel_rfl) (fun c a d v w1 h => by cases d <;> exact h) ?_
  intro A hA
  iterate 11 (apply gw_q hA rfl rfl; intro pp; go_simp; rfl; go_simp)
  refine gw_e hA rfl rfl (fun K hK => ?_)
  go_wp2_with (go_at_call 227; refine (deep_any hl2 (Grw.self _)).mono ?_; rintro e w' ⟨rfl, rfl⟩)
  refine ⟨Grw.drw W, ?_⟩
  refine gw_e hA rfl rfl (fun K hK => ?_)
  go_wp2_with (go_at_call 227; refine (deep_any hr2 (Grw.self _)).mono ?_; rintro e w' ⟨rfl, rfl⟩)
  refine ⟨Grw.drw W, ?_⟩
  iterate 2 (apply gw_q hA rfl rfl; intro pp; go_simp; rfl; go_simp)
  refine gw_e hA rfl rfl (fun K hK => ?_)
  go_wp2_with (go_at_call 238; refine (size_any hl2 (Grw.self _)).mono ?_; rintro e w' ⟨rfl, rfl⟩)
  refine ⟨Grw.drw W, ?_⟩
  iterate 1 (apply gw_q hA rfl rfl; intro pp; go_simp; rfl; go_simp)
  refine gw_e hA rfl rfl (fun K hK => ?_)
  go_wp2_with (go_at_call 238; refine (size_any hr2 (Grw.self _)).mono ?_; rintro e w' ⟨rfl, rfl⟩)
  refine ⟨Grw.drw W, ?_⟩
  iterate 1 (apply gw_q hA rfl rfl; intro pp; go_simp; rfl; go_simp)
  refine gw_e hA rfl rfl (fun K hK => ?_)
  go_wp2_with (go_at_call 150; refine (mapped_any hl2 (Grw.self _)).mono ?_; rintro e w' ⟨rfl, rfl⟩)
  refine ⟨Grw.drw W, ?_⟩
  iterate 1 (apply gw_q hA rfl rfl; intro pp; go_simp; rfl; go_simp)
  refine gw_e hA rfl rfl (fun K hK => ?_)
  go_wp2_with (go_at_call 150; refine (mapped_any hr2 (Grw.self _)).mono ?_; rintro e w' ⟨rfl, rfl⟩)
  refine ⟨Grw.drw W, ?_⟩
  iterate 2 (apply gw_q hA rfl rfl; intro pp; go_simp; rfl; go_simp)
  refine gw_e hA rfl rfl (fun K hK => ?_)
  go_wp2
  refine ⟨(Grw.drw W).alc _, ?_⟩
  iterate 1 (apply gw_q hA rfl rfl; intro pp; go_simp; rfl; go_simp)
  refine pi_nil ?_
  go_wp2
  go_ret
  have ed : 1 + M = (Tr.node l x r).deep := by simp only [Tr.deep]; rw [← hM]; split <;> omega
  have hbb : (Tr.node l x r).blocks = x.len + l.blocks + r.blocks := rfl
  have hcc : (Tr.node l x r).cnt = 1 + l.cnt + r.cnt := rfl
  rw [ed, ← hbb, ← hcc]
  have hk := Grw.alloc W.drew (.cells #[.int .i64 x.at_, .int .i64 x.len, .int .i64 x.slot, .pointer p, .pointer q, .int .i64 (Tr.node l x r).deep, .int .i64 (Tr.node l x r).cnt, .int .i64 (Tr.node l x r).blocks] 241)
  exact ⟨_, rfl, ⟨_, p, q, rfl, alloc_blk W.drew _, hl2.grw hk, hr2.grw hk⟩, (hW.then (Grw.drw W)).then hk⟩
end Go.Proofs.YtbfdnfkflnajlaaGreat

/-! balance, join. -/
namespace Go.Proofs.YtbfdnfkflnajlaaGreat
open Go.RowKit
open Ext hiding One

theorem RetT.rw {t t' : Tr} (h : t = t') {w : World} {e : Ending} {w' : World} (k : RetT t w e w') : RetT t' w e w' := h ▸ k

set_option maxRecDepth 100000 in
set_option maxHeartbeats 4000000 in
theorem balance_c {p q : Option Addr} {l r : Tr} {x : Ext} {W0 : World} (hl : IsT W0 p (l)) (hr : IsT W0 q (r)) (hf : fitL ((l).toL ++ x :: (r).toL)) (h1 : ¬ l.deep > r.deep + 1) (h2 : ¬ r.deep > l.deep + 1) :
    Calls Tryz.prog 228 #[.pointer p, extV x, .pointer q] W0 (RetT (Tr.node l x r) W0) := by
  obtain ⟨f1, f2, x1, x2⟩ := hf.mid
  obtain ⟨d1, a1, -, -, -, -⟩ := f1.bounds
  obtain ⟨d2, b1, -, -, -, -⟩ := f2.bounds
  unfold extV
  go_enter Tryz.func228, Tryz.ntmps228
  go_wp2_with fail
  have hW := Grw.alloc W0 (.cells #[.int .i64 x.at_, .int .i64 x.len, .int .i64 x.slot] 105)
  obtain ⟨k0, k1, k2⟩ := ext_cells (alloc_blk W0 (.cells #[.int .i64 x.at_, .int .i64 x.len, .int .i64 x.slot] 105))
  generalize W0.alloc (.cells #[.int .i64 x.at_, .int .i64 x.len, .int .i64 x.slot] 105) = W at hW k0 k1 k2 ⊢
  go_wp2_with (first | (go_at_call 227; (first | (with_reducible refine (deep_any hl hW).mono ?_) | (with_reducible refine (deep_any hr hW).mono ?_)); rintro e w' ⟨rfl, rfl⟩) | (go_at_call 229; refine (build_any hl hr hW hW hf).mono ?_; rintro e w1 ⟨p1, rfl, t1, g1⟩))
  go_ret
  exact ⟨_, rfl, t1, hW.then g1⟩
set_option maxRecDepth 100000 in
set_option maxHeartbeats 4000000 in
theorem balance_a1 {p q : Option Addr} {ll lr r : Tr} {lx x : Ext} {W0 : World} (hl : IsT W0 p (Tr.node ll lx lr)) (hr : IsT W0 q (r)) (hf : fitL ((Tr.node ll lx lr).toL ++ x :: (r).toL)) (h1 : (Tr.node ll lx lr).deep > r.deep + 1) (h2 : ll.deep ≥ lr.deep) :
    Calls Tryz.prog 228 #[.pointer p, extV x, .pointer q] W0 (RetT (Tr.node ll lx (Tr.node lr x r)) W0) := by
  obtain ⟨f1, f2, x1, x2⟩ := hf.mid
  obtain ⟨d1, a1, -, -, -, -⟩ := f1.bounds
  obtain ⟨d2, b1, -, -, -, -⟩ := f2.bounds
  obtain ⟨f3, f4, y1, y2⟩ := fitL.mid (a := ll.toL) (b := lr.toL) f1
  obtain ⟨d3, a3, -, -, -, -⟩ := f3.bounds
  obtain ⟨d4, a4, -, -, -, -⟩ := f4.bounds
  have hf1 : fitL (lr.toL ++ x :: r.toL) := fitL.right (a := ll.toL ++ [lx]) (by simpa [Tr.toL] using hf)
  have hf2 : fitL (ll.toL ++ lx :: (Tr.node lr x r).toL) := by simpa [Tr.toL] using hf
  have hl0 := hl
  obtain ⟨b, lp, rp, rfl, hb, hll, hlr⟩ := hl
  obtain ⟨n0, n1, n2, n3, n4⟩ := node_cells hb
  unfold extV
  go_enter Tryz.func228, Tryz.ntmps228
  go_wp2_with fail
  have hW := Grw.alloc W0 (.cells #[.int .i64 x.at_, .int .i64 x.len, .int .i64 x.slot] 105)
  obtain ⟨k0, k1, k2⟩ := ext_cells (alloc_blk W0 (.cells #[.int .i64 x.at_, .int .i64 x.len, .int .i64 x.slot] 105))
  generalize W0.alloc (.cells #[.int .i64 x.at_, .int .i64 x.len, .int .i64 x.slot] 105) = W at hW k0 k1 k2 ⊢
  go_wp2_with (go_at_call 227; (first | (with_reducible refine (deep_any hl0 hW).mono ?_) | (with_reducible refine (deep_any hr hW).mono ?_)); rintro e w' ⟨rfl, rfl⟩)
  refine gw_region [(0, true), (1, true), (2, true), (3, true), (5, true), (6, true), (7, true), (8, true), (4, false), (9, false), (10, true)] (by kernel_rfl) (by kernel_rfl) (fun c a d v w1 h => by cases d <;> exact h) ?_
  intro A hA
  iterate 8 (apply gw_q hA rfl rfl; intro pp; go_simp; rfl; go_simp)
  refine gw_e hA rfl rfl (fun K hK => ?_)
  go_wp2_with (go_at_call 227; refine (deep_any hll (by go_simp)).mono ?_; rintro e w' ⟨rfl, rfl⟩)
  refine ⟨Grw.drw W, ?_⟩
  refine gw_e hA rfl rfl (fun K hK => ?_)
  go_wp2_with (go_at_call 227; refine (deep_any hlr (by go_simp)).mono ?_; rintro e w' ⟨rfl, rfl⟩)
  refine ⟨Grw.drw W, ?_⟩
  iterate 1 (apply gw_q hA rfl rfl; intro pp; go_simp; rfl; go_simp)
  refine pi_nil ?_
  go_wp2
  refine gw_region [(0, true), (1, true), (2, true), (3, true), (4, true), (5, true), (6, true), (7, true), (8, true), (9, true), (10, true), (11, true), (12, true), (13, true), (14, false), (15, false), (16, true)] (by kernel_rfl) (by kernel_rfl) (fun c a d v w1 h => by cases d <;> exact h) ?_
  intro A hA
  iterate 14 (apply gw_q hA rfl rfl; intro pp; go_simp; rfl; go_simp)
  refine gw_e hA rfl rfl (fun K hK => ?_)
  go_wp2_with (go_at_call 229; refine (build_any hlr hr (by go_simp) (by go_simp) hf1).mono ?_; rintro e w1 ⟨p1, rfl, t1, g1⟩)
  have gg1 : Grw W.drew w1 := (Grw.drw _).then g1
  refine ⟨gg1, ?_⟩
  refine gw_e hA rfl rfl (fun K hK => ?_)
  go_wp2_with (go_at_call 229; refine (build_any hll t1 ((hW.then (Grw.drw _)).then gg1) (Grw.self _) hf2).mono ?_; rintro e w2 ⟨p2, rfl, t2, g2⟩)
  have gg2 : Grw W.drew w2 := gg1.then g2
  refine ⟨gg2, ?_⟩
  iterate 1 (apply gw_q hA rfl rfl; intro pp; go_simp; rfl; go_simp)
  refine pi_nil ?_
  go_wp2
  go_ret
  exact ⟨_, rfl, t2, (hW.then (Grw.drw _)).then gg2⟩
set_option maxRecDepth 100000 in
set_option maxHeartbeats 4000000 in
theorem balance_a2 {p q : Option Addr} {ll a b r : Tr} {lx y x : Ext} {W0 : World} (hl : IsT W0 p (Tr.node ll lx (Tr.node a y b))) (hr : IsT W0 q (r)) (hf : fitL ((Tr.node ll lx (Tr.node a y b)).toL ++ x :: (r).toL)) (h1 : (Tr.node ll lx (Tr.node a y b)).deep > r.deep + 1) (h2 : ¬ ll.deep ≥ (Tr.node a y b).deep) :
    Calls Tryz.prog 228 #[.pointer p, extV x, .pointer q] W0 (RetT (Tr.node (Tr.node ll lx a) y (Tr.node b x r)) W0) := by
  obtain ⟨f1, f2, x1, x2⟩ := hf.mid
  obtain ⟨d1, a1, -, -, -, -⟩ := f1.bounds
  obtain ⟨d2, b1, -, -, -, -⟩ := f2.bounds
  obtain ⟨f3, f4, y1, y2⟩ := fitL.mid (a := ll.toL) (b := (Tr.node a y b).toL) f1
  obtain ⟨d3, a3, -, -, -, -⟩ := f3.bounds
  obtain ⟨d4, a4, -, -, -, -⟩ := f4.bounds
  have hf1 : fitL (ll.toL ++ lx :: a.toL) := fitL.sub (a := []) (c := y :: b.toL ++ x :: r.toL) (by simpa [Tr.toL] using hf)
  have hf2 : fitL (b.toL ++ x :: r.toL) := fitL.right (a := ll.toL ++ lx :: a.toL ++ [y]) (by simpa [Tr.toL] using hf)
  have hf3 : fitL ((Tr.node ll lx a).toL ++ y :: (Tr.node b x r).toL) := by simpa [Tr.toL] using hf
  have hl0 := hl
  obtain ⟨bb, lp, rp, rfl, hb0, hll, hlr⟩ := hl
  have hlr0 := hlr
  obtain ⟨cc, mp, np, rfl, hc0, ha, hb⟩ := hlr
  obtain ⟨n0, n1, n2, n3, n4⟩ := node_cells hb0
  obtain ⟨m0, m1, m2, m3, m4⟩ := node_cells hc0
  unfold extV
  go_enter Tryz.func228, Tryz.ntmps228
  go_wp2_with fail
  have hW := Grw.alloc W0 (.cells #[.int .i64 x.at_, .int .i64 x.len, .int .i64 x.slot] 105)
  obtain ⟨k0, k1, k2⟩ := ext_cells (alloc_blk W0 (.cells #[.int .i64 x.at_, .int .i64 x.len, .int .i64 x.slot] 105))
  generalize W0.alloc (.cells #[.int .i64 x.at_, .int .i64 x.len, .int .i64 x.slot] 105) = W at hW k0 k1 k2 ⊢
  go_wp2_with (go_at_call 227; (first | (with_reducible refine (deep_any hl0 hW).mono ?_) | (with_reducible refine (deep_any hr hW).mono ?_)); rintro e w' ⟨rfl, rfl⟩)
  refine gw_region [(0, true), (1, true), (2, true), (3, true), (5, true), (6, true), (7, true), (8, true), (4, false), (9, false), (10, true)] (by kernel_rfl) (by kernel_rfl) (fun c a d v w1 h => by cases d <;> exact h) ?_
  intro A hA
  iterate 8 (apply gw_q hA rfl rfl; intro pp; go_simp; rfl; go_simp)
  refine gw_e hA rfl rfl (fun K hK => ?_)
  go_wp2_with (go_at_call 227; refine (deep_any hll (by go_simp)).mono ?_; rintro e w' ⟨rfl, rfl⟩)
  refine ⟨Grw.drw W, ?_⟩
  refine gw_e hA rfl rfl (fun K hK => ?_)
  go_wp2_with (go_at_call 227; refine (deep_any hlr0 (by go_simp)).mono ?_; rintro e w' ⟨rfl, rfl⟩)
  refine ⟨Grw.drw W, ?_⟩
  iterate 1 (apply gw_q hA rfl rfl; intro pp; go_simp; rfl; go_simp)
  refine pi_nil ?_
  go_wp2
  refine gw_region [(0, true), (1, true), (2, true), (3, true), (4, true), (5, true), (6, true), (7, true), (8, true), (9, true), (10, true), (11, true), (13, true), (14, true), (15, true), (16, true), (17, true), (18, true), (19, true), (20, true), (21, true), (22, true), (12, false), (23, false), (24, false), (25, true)] (by kernel_rfl) (by kernel_rfl) (fun c a d v w1 h => by cases d <;> exact h) ?_
  intro A hA
  iterate 22 (apply gw_q hA rfl rfl; intro pp; go_simp; rfl; go_simp)
  refine gw_e hA rfl rfl (fun K hK => ?_)
  go_wp2_with (go_at_call 229; refine (build_any hll ha (by go_simp) (by go_simp) hf1).mono ?_; rintro e w1 ⟨p1, rfl, t1, g1⟩)
  have gg1 : Grw W.drew w1 := (Grw.drw _).then g1
  refine ⟨gg1, ?_⟩
  refine gw_e hA rfl rfl (fun K hK => ?_)
  go_wp2_with (go_at_call 229; refine (build_any hb hr ((hW.then (Grw.drw _)).then gg1) ((hW.then (Grw.drw _)).then gg1) hf2).mono ?_; rintro e w2 ⟨p2, rfl, t2, g2⟩)
  have gg2 : Grw W.drew w2 := gg1.then g2
  refine ⟨gg2, ?_⟩
  refine gw_e hA rfl rfl (fun K hK => ?_)
  go_wp2_with (go_at_call 229; refine (build_any t1 t2 g2 (Grw.self _) hf3).mono ?_; rintro e w3 ⟨p3, rfl, t3, g3⟩)
  have gg3 : Grw W.drew w3 := gg2.then g3
  refine ⟨gg3, ?_⟩
  iterate 1 (apply gw_q hA rfl rfl; intro pp; go_simp; rfl; go_simp)
  refine pi_nil ?_
  go_wp2
  go_ret
  exact ⟨_, rfl, t3, (hW.then (Grw.drw _)).then gg3⟩
set_option maxRecDepth 100000 in
set_option maxHeartbeats 4000000 in
theorem balance_b1 {p q : Option Addr} {l rl rr : Tr} {rx x : Ext} {W0 : World} (hl : IsT W0 p (l)) (hr : IsT W0 q (Tr.node rl rx rr)) (hf : fitL ((l).toL ++ x :: (Tr.node rl rx rr).toL)) (h1 : ¬ l.deep > (Tr.node rl rx rr).deep + 1) (h2 : (Tr.node rl rx rr).deep > l.deep + 1) (h3 : rr.deep ≥ rl.deep) :
    Calls Tryz.prog 228 #[.pointer p, extV x, .pointer q] W0 (RetT (Tr.node (Tr.node l x rl) rx rr) W0) := by
  obtain ⟨f1, f2, x1, x2⟩ := hf.mid
  obtain ⟨d1, a1, -, -, -, -⟩ := f1.bounds
  obtain ⟨d2, b1, -, -, -, -⟩ := f2.bounds
  obtain ⟨f3, f4, y1, y2⟩ := fitL.mid (a := rl.toL) (b := rr.toL) f2
  obtain ⟨d3, a3, -, -, -, -⟩ := f3.bounds
  obtain ⟨d4, a4, -, -, -, -⟩ := f4.bounds
  have hf1 : fitL (l.toL ++ x :: rl.toL) := fitL.sub (a := []) (c := rx :: rr.toL) (by simpa [Tr.toL] using hf)
  have hf2 : fitL ((Tr.node l x rl).toL ++ rx :: rr.toL) := by simpa [Tr.toL] using hf
  have hr0 := hr
  obtain ⟨b, lp, rp, rfl, hb, hrl, hrr⟩ := hr
  obtain ⟨n0, n1, n2, n3, n4⟩ := node_cells hb
  unfold extV
  go_enter Tryz.func228, Tryz.ntmps228
  go_wp2_with fail
  have hW := Grw.alloc W0 (.cells #[.int .i64 x.at_, .int .i64 x.len, .int .i64 x.slot] 105)
  obtain ⟨k0, k1, k2⟩ := ext_cells (alloc_blk W0 (.cells #[.int .i64 x.at_, .int .i64 x.len, .int .i64 x.slot] 105))
  generalize W0.alloc (.cells #[.int .i64 x.at_, .int .i64 x.len, .int .i64 x.slot] 105) = W at hW k0 k1 k2 ⊢
  go_wp2_with (go_at_call 227; (first | (with_reducible refine (deep_any hl hW).mono ?_) | (with_reducible refine (deep_any hr0 hW).mono ?_)); rintro e w' ⟨rfl, rfl⟩)
  refine gw_region [(0, true), (1, true), (2, true), (3, true), (5, true), (6, true), (7, true), (8, true), (4, false), (9, false), (10, true)] (by kernel_rfl) (by kernel_rfl) (fun c a d v w1 h => by cases d <;> exact h) ?_
  intro A hA
  iterate 8 (apply gw_q hA rfl rfl; intro pp; go_simp; rfl; go_simp)
  refine gw_e hA rfl rfl (fun K hK => ?_)
  go_wp2_with (go_at_call 227; refine (deep_any hrr (by go_simp)).mono ?_; rintro e w' ⟨rfl, rfl⟩)
  refine ⟨Grw.drw W, ?_⟩
  refine gw_e hA rfl rfl (fun K hK => ?_)
  go_wp2_with (go_at_call 227; refine (deep_any hrl (by go_simp)).mono ?_; rintro e w' ⟨rfl, rfl⟩)
  refine ⟨Grw.drw W, ?_⟩
  iterate 1 (apply gw_q hA rfl rfl; intro pp; go_simp; rfl; go_simp)
  refine pi_nil ?_
  go_wp2
  refine gw_region [(0, true), (1, true), (2, true), (3, true), (4, true), (5, true), (7, true), (8, true), (9, true), (10, true), (11, true), (12, true), (13, true), (14, true), (6, false), (15, false), (16, true)] (by kernel_rfl) (by kernel_rfl) (fun c a d v w1 h => by cases d <;> exact h) ?_
  intro A hA
  iterate 14 (apply gw_q hA rfl rfl; intro pp; go_simp; rfl; go_simp)
  refine gw_e hA rfl rfl (fun K hK => ?_)
  go_wp2_with (go_at_call 229; refine (build_any hl hrl (by go_simp) (by go_simp) hf1).mono ?_; rintro e w1 ⟨p1, rfl, t1, g1⟩)
  have gg1 : Grw W.drew w1 := (Grw.drw _).then g1
  refine ⟨gg1, ?_⟩
  refine gw_e hA rfl rfl (fun K hK => ?_)
  go_wp2_with (go_at_call 229; refine (build_any t1 hrr (Grw.self _) ((hW.then (Grw.drw _)).then gg1) hf2).mono ?_; rintro e w2 ⟨p2, rfl, t2, g2⟩)
  have gg2 : Grw W.drew w2 := gg1.then g2
  refine ⟨gg2, ?_⟩
  iterate 1 (apply gw_q hA rfl rfl; intro pp; go_simp; rfl; go_simp)
  refine pi_nil ?_
  go_wp2
  go_ret
  exact ⟨_, rfl, t2, (hW.then (Grw.drw _)).then gg2⟩
set_option maxRecDepth 100000 in
set_option maxHeartbeats 4000000 in
theorem balance_b2 {p q : Option Addr} {l a b rr : Tr} {rx y x : Ext} {W0 : World} (hl : IsT W0 p (l)) (hr : IsT W0 q (Tr.node (Tr.node a y b) rx rr)) (hf : fitL ((l).toL ++ x :: (Tr.node (Tr.node a y b) rx rr).toL)) (h1 : ¬ l.deep > (Tr.node (Tr.node a y b) rx rr).deep + 1) (h2 : (Tr.node (Tr.node a y b) rx rr).deep > l.deep + 1) (h3 : ¬ rr.deep ≥ (Tr.node a y b).deep) :
    Calls Tryz.prog 228 #[.pointer p, extV x, .pointer q] W0 (RetT (Tr.node (Tr.node l x a) y (Tr.node b rx rr)) W0) := by
  obtain ⟨f1, f2, x1, x2⟩ := hf.mid
  obtain ⟨d1, a1, -, -, -, -⟩ := f1.bounds
  obtain ⟨d2, b1, -, -, -, -⟩ := f2.bounds
  obtain ⟨f3, f4, y1, y2⟩ := fitL.mid (a := (Tr.node a y b).toL) (b := rr.toL) f2
  obtain ⟨d3, a3, -, -, -, -⟩ := f3.bounds
  obtain ⟨d4, a4, -, -, -, -⟩ := f4.bounds
  have hf1 : fitL (l.toL ++ x :: a.toL) := fitL.sub (a := []) (c := y :: b.toL ++ rx :: rr.toL) (by simpa [Tr.toL] using hf)
  have hf2 : fitL (b.toL ++ rx :: rr.toL) := fitL.right (a := l.toL ++ x :: a.toL ++ [y]) (by simpa [Tr.toL] using hf)
  have hf3 : fitL ((Tr.node l x a).toL ++ y :: (Tr.node b rx rr).toL) := by simpa [Tr.toL] using hf
  have hr0 := hr
  obtain ⟨bb, lp, rp, rfl, hb0, hrl, hrr⟩ := hr
  have hrl0 := hrl
  obtain ⟨cc, mp, np, rfl, hc0, ha, hb⟩ := hrl
  obtain ⟨n0, n1, n2, n3, n4⟩ := node_cells hb0
  obtain ⟨m0, m1, m2, m3, m4⟩ := node_cells hc0
  unfold extV
  go_enter Tryz.func228, Tryz.ntmps228
  go_wp2_with fail
  have hW := Grw.alloc W0 (.cells #[.int .i64 x.at_, .int .i64 x.len, .int .i64 x.slot] 105)
  obtain ⟨k0, k1, k2⟩ := ext_cells (alloc_blk W0 (.cells #[.int .i64 x.at_, .int .i64 x.len, .int .i64 x.slot] 105))
  generalize W0.alloc (.cells #[.int .i64 x.at_, .int .i64 x.len, .int .i64 x.slot] 105) = W at hW k0 k1 k2 ⊢
  go_wp2_with (go_at_call 227; (first | (with_reducible refine (deep_any hl hW).mono ?_) | (with_reducible refine (deep_any hr0 hW).mono ?_)); rintro e w' ⟨rfl, rfl⟩)
  refine gw_region [(0, true), (1, true), (2, true), (3, true), (5, true), (6, true), (7, true), (8, true), (4, false), (9, false), (10, true)] (by kernel_rfl) (by kernel_rfl) (fun c a d v w1 h => by cases d <;> exact h) ?_
  intro A hA
  iterate 8 (apply gw_q hA rfl rfl; intro pp; go_simp; rfl; go_simp)
  refine gw_e hA rfl rfl (fun K hK => ?_)
  go_wp2_with (go_at_call 227; refine (deep_any hrr (by go_simp)).mono ?_; rintro e w' ⟨rfl, rfl⟩)
  refine ⟨Grw.drw W, ?_⟩
  refine gw_e hA rfl rfl (fun K hK => ?_)
  go_wp2_with (go_at_call 227; refine (deep_any hrl0 (by go_simp)).mono ?_; rintro e w' ⟨rfl, rfl⟩)
  refine ⟨Grw.drw W, ?_⟩
  iterate 1 (apply gw_q hA rfl rfl; intro pp; go_simp; rfl; go_simp)
  refine pi_nil ?_
  go_wp2
  refine gw_region [(0, true), (1, true), (2, true), (3, true), (4, true), (5, true), (7, true), (8, true), (9, true), (10, true), (11, true), (12, true), (13, true), (14, true), (15, true), (16, true), (17, true), (18, true), (19, true), (20, true), (21, true), (22, true), (6, false), (23, false), (24, false), (25, true)] (by kernel_rfl) (by kernel_rfl) (fun c a d v w1 h => by cases d <;> exact h) ?_
  intro A hA
  iterate 22 (apply gw_q hA rfl rfl; intro pp; go_simp; rfl; go_simp)
  refine gw_e hA rfl rfl (fun K hK => ?_)
  go_wp2_with (go_at_call 229; refine (build_any hl ha (by go_simp) (by go_simp) hf1).mono ?_; rintro e w1 ⟨p1, rfl, t1, g1⟩)
  have gg1 : Grw W.drew w1 := (Grw.drw _).then g1
  refine ⟨gg1, ?_⟩
  refine gw_e hA rfl rfl (fun K hK => ?_)
  go_wp2_with (go_at_call 229; refine (build_any hb hrr ((hW.then (Grw.drw _)).then gg1) ((hW.then (Grw.drw _)).then gg1) hf2).mono ?_; rintro e w2 ⟨p2, rfl, t2, g2⟩)
  have gg2 : Grw W.drew w2 := gg1.then g2
  refine ⟨gg2, ?_⟩
  refine gw_e hA rfl rfl (fun K hK => ?_)
  go_wp2_with (go_at_call 229; refine (build_any t1 t2 g2 (Grw.self _) hf3).mono ?_; rintro e w3 ⟨p3, rfl, t3, g3⟩)
  have gg3 : Grw W.drew w3 := gg2.then g3
  refine ⟨gg3, ?_⟩
  iterate 1 (apply gw_q hA rfl rfl; intro pp; go_simp; rfl; go_simp)
  refine pi_nil ?_
  go_wp2
  go_ret
  exact ⟨_, rfl, t3, (hW.then (Grw.drw _)).then gg3⟩
theorem balance_any {p q : Option Addr} {l r : Tr} {x : Ext} {w1 w2 W0 : World} (hl : IsT w1 p l) (hr : IsT w2 q r) (hg1 : Grw w1 W0) (hg2 : Grw w2 W0) (hf : fitL (l.toL ++ x :: r.toL)) :
    Calls Tryz.prog 228 #[.pointer p, extV x, .pointer q] W0 (RetT (Tr.balance l x r) W0) := by
  replace hl := hl.grw hg1
  replace hr := hr.grw hg2
  have e0 : Tr.nil.deep = 0 := rfl
  have dl := Tr.deep_nonneg l
  have dr := Tr.deep_nonneg r
  unfold Tr.balance
  by_cases h1 : l.deep > r.deep + 1
  · rw [if_pos h1]
    cases l with
    | nil => omega
    | node ll lx lr =>
      by_cases h2 : ll.deep ≥ lr.deep
      · rw [if_pos (show (Tr.node ll lx lr).left.deep ≥ (Tr.node ll lx lr).right.deep from h2)]
        exact balance_a1 hl hr hf h1 h2
      · rw [if_neg (show ¬ (Tr.node ll lx lr).left.deep ≥ (Tr.node ll lx lr).right.deep from h2)]
        cases lr with
        | nil => have := Tr.deep_nonneg ll; omega
        | node a y b => exact balance_a2 hl hr hf h1 h2
  · rw [if_neg h1]
    by_cases h2 : r.deep > l.deep + 1
    · rw [if_pos h2]
      cases r with
      | nil => omega
      | node rl rx rr =>
        by_cases h3 : rr.deep ≥ rl.deep
        · rw [if_pos (show (Tr.node rl rx rr).right.deep ≥ (Tr.node rl rx rr).left.deep from h3)]
          exact balance_b1 hl hr hf h1 h2 h3
        · rw [if_neg (show ¬ (Tr.node rl rx rr).right.deep ≥ (Tr.node rl rx rr).left.deep from h3)]
          cases rl with
          | nil => have := Tr.deep_nonneg rr; omega
          | node a y b => exact balance_b2 hl hr hf h1 h2 h3
    · rw [if_neg h2]
      exact balance_c hl hr hf h1 h2
end Go.Proofs.YtbfdnfkflnajlaaGreat

/-! join: by induction on the number of nodes. -/
namespace Go.Proofs.YtbfdnfkflnajlaaGreat
open Go.RowKit
open Ext hiding One

set_option maxRecDepth 100000 in
set_option maxHeartbeats 4000000 in
theorem join_n (n : Nat) : ∀ {p q : Option Addr} {l r : Tr} {x : Ext} {W0 : World}, l.nodes + r.nodes < n → IsT W0 p l → IsT W0 q r → fitL (l.toL ++ x :: r.toL) →
    Calls Tryz.prog 197 #[.pointer p, extV x, .pointer q] W0 (RetT (Tr.join l x r) W0) := by
  induction n with
  | zero => intro p q l r x W0 h; omega
  | succ n ih =>
    intro p q l r x W0 hn hl hr hf
    rw [Tr.join_eq]
    obtain ⟨f1, f2, x1, x2⟩ := hf.mid
    obtain ⟨d1, a1, -, -, -, -⟩ := f1.bounds
    obtain ⟨d2, b1, -, -, -, -⟩ := f2.bounds
    by_cases h1 : l.deep > r.deep + 1
    · rw [if_pos h1]
      cases l with
      | nil => have : Tr.nil.deep = 0 := rfl; omega
      | node ll lx lr =>
        have hn1 : lr.nodes + r.nodes < n := by simp only [Tr.nodes] at hn; omega
        have hf1 : fitL (lr.toL ++ x :: r.toL) := fitL.right (a := ll.toL ++ [lx]) (by simpa [Tr.toL] using hf)
        have hf2 : fitL (ll.toL ++ lx :: (Tr.join lr x r).toL) := by rw [Tr.join_toL]; simpa [Tr.toL] using hf
        have hl0 := hl
        obtain ⟨b, lp, rp, rfl, hb, hll, hlr⟩ := hl
        obtain ⟨n0, n1, n2, n3, n4⟩ := node_cells hb
        have ih1 := fun (W1 : World) (hg : Grw W0 W1) => @ih rp q lr r x W1 hn1 (hlr.grw hg) (hr.grw hg) hf1
        clear ih hn hn1
        unfold extV
        go_enter Tryz.func197, Tryz.ntmps197
        go_wp2_with fail
        have hW := Grw.alloc W0 (.cells #[.int .i64 x.at_, .int .i64 x.len, .int .i64 x.slot] 105)
        obtain ⟨k0, k1, k2⟩ := ext_cells (alloc_blk W0 (.cells #[.int .i64 x.at_, .int .i64 x.len, .int .i64 x.slot] 105))
        generalize W0.alloc (.cells #[.int .i64 x.at_, .int .i64 x.len, .int .i64 x.slot] 105) = W at hW k0 k1 k2 ⊢
        go_wp2_with (go_at_call 227; (first | (with_reducible refine (deep_any hl0 hW).mono ?_) | (with_reducible refine (deep_any hr hW).mono ?_)); rintro e w' ⟨rfl, rfl⟩)
        refine gw_region [(0, true), (1, true), (2, true), (3, true), (4, true), (5, true), (6, true), (7, true), (8, true), (9, true), (10, true), (11, true), (12, true), (13, true), (14, false), (15, false), (16, true)] (by kernel_rfl) (by kernel_rfl) (fun c a d v w1 h => by cases d <;> exact h) ?_
        intro A hA
        iterate 14 (apply gw_q hA rfl rfl; intro pp; go_simp; rfl; go_simp)
        refine gw_e hA rfl rfl (fun K hK => ?_)
        go_wp2_with (go_at_call 197; refine ((show _ from ih1 _ (by go_simp))).mono ?_; rintro e w1 ⟨p1, rfl, t1, g1⟩)
        have gg1 : Grw W w1 := (Grw.drw _).then g1
        refine ⟨gg1, ?_⟩
        refine gw_e hA rfl rfl (fun K hK => ?_)
        go_wp2_with (go_at_call 228; refine (balance_any hll t1 ((hW.then gg1)) (Grw.self _) hf2).mono ?_; rintro e w2 ⟨p2, rfl, t2, g2⟩)
        have gg2 : Grw W w2 := gg1.then g2
        refine ⟨gg2, ?_⟩
        iterate 1 (apply gw_q hA rfl rfl; intro pp; go_simp; rfl; go_simp)
        refine pi_nil ?_
        go_wp2
        go_ret
        exact ⟨_, rfl, t2, hW.then gg2⟩
    · rw [if_neg h1]
      by_cases h2 : r.deep > l.deep + 1
      · rw [if_pos h2]
        cases r with
        | nil => have : Tr.nil.deep = 0 := rfl; omega
        | node rl rx rr =>
          have hn1 : l.nodes + rl.nodes < n := by simp only [Tr.nodes] at hn; omega
          have hf1 : fitL (l.toL ++ x :: rl.toL) := fitL.sub (a := []) (c := rx :: rr.toL) (by simpa [Tr.toL] using hf)
          have hf2 : fitL ((Tr.join l x rl).toL ++ rx :: rr.toL) := by rw [Tr.join_toL]; simpa [Tr.toL] using hf
          have hr0 := hr
          obtain ⟨b, lp, rp, rfl, hb, hrl, hrr⟩ := hr
          obtain ⟨n0, n1, n2, n3, n4⟩ := node_cells hb
          have ih1 := fun (W1 : World) (hg : Grw W0 W1) => @ih p lp l rl x W1 hn1 (hl.grw hg) (hrl.grw hg) hf1
          clear ih hn hn1
          unfold extV
          go_enter Tryz.func197, Tryz.ntmps197
          go_wp2_with fail
          have hW := Grw.alloc W0 (.cells #[.int .i64 x.at_, .int .i64 x.len, .int .i64 x.slot] 105)
          obtain ⟨k0, k1, k2⟩ := ext_cells (alloc_blk W0 (.cells #[.int .i64 x.at_, .int .i64 x.len, .int .i64 x.slot] 105))
          generalize W0.alloc (.cells #[.int .i64 x.at_, .int .i64 x.len, .int .i64 x.slot] 105) = W at hW k0 k1 k2 ⊢
          go_wp2_with (go_at_call 227; (first | (with_reducible refine (deep_any hl hW).mono ?_) | (with_reducible refine (deep_any hr0 hW).mono ?_)); rintro e w' ⟨rfl, rfl⟩)
          refine gw_region [(0, true), (1, true), (2, true), (3, true), (4, true), (5, true), (7, true), (8, true), (9, true), (10, true), (11, true), (12, true), (13, true), (14, true), (6, false), (15, false), (16, true)] (by kernel_rfl) (by kernel_rfl) (fun c a d v w1 h => by cases d <;> exact h) ?_
          intro A hA
          iterate 14 (apply gw_q hA rfl rfl; intro pp; go_simp; rfl; go_simp)
          refine gw_e hA rfl rfl (fun K hK => ?_)
          go_wp2_with (go_at_call 197; refine ((show _ from ih1 _ (by go_simp))).mono ?_; rintro e w1 ⟨p1, rfl, t1, g1⟩)
          have gg1 : Grw W w1 := (Grw.drw _).then g1
          refine ⟨gg1, ?_⟩
          refine gw_e hA rfl rfl (fun K hK => ?_)
          go_wp2_with (go_at_call 228; refine (balance_any t1 hrr (Grw.self _) ((hW.then gg1)) hf2).mono ?_; rintro e w2 ⟨p2, rfl, t2, g2⟩)
          have gg2 : Grw W w2 := gg1.then g2
          refine ⟨gg2, ?_⟩
          iterate 1 (apply gw_q hA rfl rfl; intro pp; go_simp; rfl; go_simp)
          refine pi_nil ?_
          go_wp2
          go_ret
          exact ⟨_, rfl, t2, hW.then gg2⟩
      · rw [if_neg h2]
        clear ih hn
        unfold extV
        go_enter Tryz.func197, Tryz.ntmps197
        go_wp2_with fail
        have hW := Grw.alloc W0 (.cells #[.int .i64 x.at_, .int .i64 x.len, .int .i64 x.slot] 105)
        obtain ⟨k0, k1, k2⟩ := ext_cells (alloc_blk W0 (.cells #[.int .i64 x.at_, .int .i64 x.len, .int .i64 x.slot] 105))
        generalize W0.alloc (.cells #[.int .i64 x.at_, .int .i64 x.len, .int .i64 x.slot] 105) = W at hW k0 k1 k2 ⊢
        go_wp2_with (first | (go_at_call 227; (first | (with_reducible refine (deep_any hl hW).mono ?_) | (with_reducible refine (deep_any hr hW).mono ?_)); rintro e w' ⟨rfl, rfl⟩) | (go_at_call 229; refine (build_any hl hr hW hW hf).mono ?_; rintro e w1 ⟨p1, rfl, t1, g1⟩))
        go_ret
        exact ⟨_, rfl, t1, hW.then g1⟩
theorem join_any {p q : Option Addr} {l r : Tr} {x : Ext} {w1 w2 W0 : World} (hl : IsT w1 p l) (hr : IsT w2 q r) (hg1 : Grw w1 W0) (hg2 : Grw w2 W0) (hf : fitL (l.toL ++ x :: r.toL)) :
    Calls Tryz.prog 197 #[.pointer p, extV x, .pointer q] W0 (RetT (Tr.join l x r) W0) :=
  join_n _ (Nat.lt_succ_self _) (hl.grw hg1) (hr.grw hg2) hf
end Go.Proofs.YtbfdnfkflnajlaaGreat

/-! Slices: what is read, what is owned; extents as rows of three cells. -/
namespace Go.Proofs.YtbfdnfkflnajlaaGreat
open Go.RowKit
open Ext hiding One

theorem blk_free {W : World} {b : Nat} {cs : Array Value} {t : TypeId} (h : W.heap[b]? = some (.cells cs t (0, 0))) (o : Nat) : W.frozen? ⟨b, o, none⟩ = false := by
  simp [World.frozen?, h]
theorem setCell_blk {w : World} {b : Nat} {cs : Array Value} {t : TypeId} {fr : Nat × Nat} (hb : w.heap[b]? = some (.cells cs t fr)) (o : Nat) (v : Value) : (w.setCell ⟨b, o, none⟩ v).heap[b]? = some (.cells (cs.setIfInBounds o v) t fr) := by
  simp [World.setCell, Array.getElem?_modify, hb]
/-- a variable of one cell. -/
theorem var_facts {W : World} {b : Nat} {v : Value} {t : TypeId} (h : W.heap[b]? = some (.cells #[v] t (0, 0))) : W.cell? ⟨b, 0, none⟩ = some v ∧ W.frozen? ⟨b, 0, none⟩ = false := ⟨blk_cell h 0, blk_free h 0⟩
/-- n elements of k cells each, read through a slice. -/
def Rows (w : World) (k : Nat) (v : Value) (n : Nat) (cs : List Value) : Prop :=
  cs.length = n * k ∧ ((v = .slice none 0 0 ∧ n = 0) ∨ ∃ b off cap, v = .slice (some ⟨b, off, none⟩) n cap ∧ n ≤ cap ∧ cap ≤ maxLen ∧ ∀ j u, cs[j]? = some u → w.cell? ⟨b, off + j, none⟩ = some u)
theorem Rows.grw {w w' : World} {k n : Nat} {v : Value} {cs : List Value} (hg : Grw w w') (h : Rows w k v n cs) : Rows w' k v n cs := by
  refine ⟨h.1, h.2.imp id ?_⟩
  rintro ⟨b, off, cap, hv, h1, h2, h3⟩
  exact ⟨b, off, cap, hv, h1, h2, fun j u hu => Grw.cell (h3 j u hu) _ hg⟩
theorem Rows.own {w : World} {base : Nat} {e : TypeId} {k n : Nat} {v : Value} {cs : List Value} (h : w.ownsRow base e k v n cs) : Rows w k v n cs := by
  refine ⟨h.1, h.2.imp id ?_⟩
  rintro ⟨g, cap, cur, hv, hb, hh, h1, h2, h3, h4⟩
  refine ⟨g, 0, cap, hv, h1, h2, fun j u hu => ?_⟩
  rw [Nat.zero_add, blk_cell hh j]
  rw [← h4, List.getElem?_take] at hu
  split at hu
  · simpa using hu
  · cases hu
theorem Rows.nil (w : World) (k : Nat) : Rows w k (.slice none 0 0) 0 [] := ⟨by simp, .inl ⟨rfl, rfl⟩⟩

/-- the cells of an extent. -/
def extC (x : Ext) : List Value := [.int .i64 x.at_, .int .i64 x.len, .int .i64 x.slot]
/-- the cells of a list. -/
def flat {α : Type} (c : α → List Value) (l : List α) : List Value := (l.map c).flatten
theorem flat_append {α : Type} (c : α → List Value) (a b : List α) : flat c (a ++ b) = flat c a ++ flat c b := by simp [flat]
theorem flat_snoc {α : Type} (c : α → List Value) (a : List α) (x : α) : flat c (a ++ [x]) = flat c a ++ c x := by simp [flat]
theorem flat_cons {α : Type} (c : α → List Value) (a : List α) (x : α) : flat c (x :: a) = c x ++ flat c a := by simp [flat]
theorem flat_length {α : Type} {c : α → List Value} {k : Nat} (hc : ∀ x, (c x).length = k) (l : List α) : (flat c l).length = l.length * k := by
  induction l with
  | nil => simp [flat]
  | cons x l ih => rw [flat_cons, List.length_append, ih, hc, List.length_cons, Nat.succ_mul]; omega
theorem flat_get {α : Type} {c : α → List Value} {k : Nat} (hc : ∀ x, (c x).length = k) : ∀ (l : List α) (i : Nat) (x : α) (j : Nat), l[i]? = some x → j < k → (flat c l)[i * k + j]? = (c x)[j]?
  | [], i, x, j, h, _ => by simp at h
  | y :: l, 0, x, j, h, hj => by
    simp at h; subst h
    rw [flat_cons, Nat.zero_mul, Nat.zero_add, List.getElem?_append_left (by rw [hc]; exact hj)]
  | y :: l, i + 1, x, j, h, hj => by
    rw [flat_cons, List.getElem?_append_right (by rw [hc, Nat.succ_mul]; omega), hc]
    rw [show (i + 1) * k + j - k = i * k + j by rw [Nat.succ_mul]; omega]
    exact flat_get hc l i x j (by simpa using h) hj
theorem extC_len (x : Ext) : (extC x).length = 3 := rfl

/-- a list of extents, read through a slice. -/
def Exts (w : World) (v : Value) (l : List Ext) : Prop := Rows w 3 v l.length (flat extC l)
theorem Exts.grw {w w' : World} {v : Value} {l : List Ext} (hg : Grw w w') (h : Exts w v l) : Exts w' v l := Rows.grw hg h
/-- a list of extents in a row of the call's own. -/
def OwnE (w : World) (base : Nat) (v : Value) (l : List Ext) : Prop := w.ownsRow base 105 3 v l.length (flat extC l)
theorem OwnE.exts {w : World} {base : Nat} {v : Value} {l : List Ext} (h : OwnE w base v l) : Exts w v l := Rows.own h
theorem OwnE.nil (w : World) (base : Nat) : OwnE w base (.slice none 0 0) [] := ⟨by simp [flat], .inl ⟨rfl, rfl⟩⟩
theorem Grw.by {w w' : World} (h : Grw w w') (row : Option Nat) : w.grownBy w' row := ⟨Below.os h, Below.tape h, Below.output h, Below.size h, fun i hi _ => Below.block h i hi⟩
theorem OwnE.kept {w w' : World} {base : Nat} {v : Value} {l : List Ext} (hg : Grw w w') (h : OwnE w base v l) : OwnE w' base v l :=
  World.ownsRow.kept h (hg.by none) (by cases v.ownBlock <;> simp)
theorem own_low {w : World} {base base' : Nat} {e : TypeId} {size n : Nat} {v : Value} {xs : List Value} (h : w.ownsRow base e size v n xs) (hb : base' ≤ base) : w.ownsRow base' e size v n xs := by
  obtain ⟨h1, h2⟩ := h
  refine ⟨h1, h2.imp id ?_⟩
  rintro ⟨g, cap, cur, hv, hg, r⟩
  exact ⟨g, cap, cur, hv, Nat.le_trans hb hg, r⟩
/-- the shape of a slice of extents, for the walk. -/
theorem Exts.shape {w : World} {v : Value} {l : List Ext} (h : Exts w v l) : ∃ A cap, v = .slice A l.length cap ∧ l.length ≤ cap ∧ cap ≤ maxLen ∧
    ∀ i x, l[i]? = some x → ∃ b off, A = some ⟨b, off, none⟩ ∧ w.cell? ⟨b, off + i * 3, none⟩ = some (.int .i64 x.at_) ∧ w.cell? ⟨b, off + i * 3 + 1, none⟩ = some (.int .i64 x.len) ∧ w.cell? ⟨b, off + i * 3 + 2, none⟩ = some (.int .i64 x.slot) := by
  obtain ⟨h1, h2⟩ := h
  rcases h2 with ⟨rfl, h0⟩ | ⟨b, off, cap, rfl, hc, hm, hcell⟩
  · refine ⟨none, 0, by rw [h0], by omega, by unfold maxLen; omega, fun i x hx => ?_⟩
    rw [List.getElem?_eq_none (by omega)] at hx
    cases hx
  · refine ⟨_, cap, rfl, hc, hm, fun i x hx => ⟨b, off, rfl, ?_, ?_, ?_⟩⟩
    · exact hcell _ _ (by rw [← Nat.add_zero (i * 3), flat_get extC_len l i x 0 hx (by omega)]; rfl)
    · exact hcell _ _ (by rw [flat_get extC_len l i x 1 hx (by omega)]; rfl)
    · exact hcell _ _ (by rw [flat_get extC_len l i x 2 hx (by omega)]; rfl)
end Go.Proofs.YtbfdnfkflnajlaaGreat
