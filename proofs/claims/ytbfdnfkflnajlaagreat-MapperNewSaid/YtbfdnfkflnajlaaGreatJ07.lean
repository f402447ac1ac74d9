/-
  first, last. last. concat, split. walk, list: the extents of a tree, collected in a row of the call's own. extent: within, proper, end; extree: proper, follows.
-/
import Derived.Test.YtbfdnfkflnajlaaGreatJ06
import Derived.Deep.AppendLies
set_option linter.unusedVariables false
set_option linter.unusedSimpArgs false
/-! first, last. -/
namespace Go.Proofs.YtbfdnfkflnajlaaGreat
open Go.RowKit
open Ext hiding One

def RetXT (x : Ext) (t : Tr) (w : World) (e : Ending) (w' : World) : Prop := ∃ p, e = .returned (.tuple #[extV x, .pointer p]) ∧ IsT w' p t ∧ Grw w w'

theorem GrwX.set0 {n : Nat} {a b : World} (h : GrwX (OwnR n 1) a b) (o : Nat) (v : Value) : GrwX (OwnR n 1) a (b.setCell ⟨n, o, Option.none⟩ v) :=
  GrwX.set h (p := ⟨n, o, Option.none⟩) ⟨Nat.le_refl _, Nat.lt_succ_self _⟩ v
/-- a store of an extent into an own variable. -/
theorem set_ext {w0 w : World} {b : Nat} {cs : Array Value} {p : Option Addr} {T : Tr} (v0 v1 v2 : Value) (hb : w.heap[b]? = some (.cells cs 105 (0, 0))) (h : IsT w p T) (hg : Grw w0 w) (hn : w0.heap.size ≤ b) (hs : cs.size = 3) :
    (∀ o v, #[v0, v1, v2][o]? = some v → (((w.setCell ⟨b, 0, none⟩ v0).setCell ⟨b, 1, none⟩ v1).setCell ⟨b, 2, none⟩ v2).cell? ⟨b, o, none⟩ = some v) ∧ IsT (((w.setCell ⟨b, 0, none⟩ v0).setCell ⟨b, 1, none⟩ v1).setCell ⟨b, 2, none⟩ v2) p T ∧ Grw w0 (((w.setCell ⟨b, 0, none⟩ v0).setCell ⟨b, 1, none⟩ v1).setCell ⟨b, 2, none⟩ v2) := by
  have h1 := setCell_blk hb 0 v0
  have h2 := setCell_blk h1 1 v1
  have h3 := setCell_blk h2 2 v2
  have hcs : ((cs.setIfInBounds 0 v0).setIfInBounds 1 v1).setIfInBounds 2 v2 = #[v0, v1, v2] := by
    apply Array.ext
    · simp [hs]
    · intro i h1 h2
      simp [hs] at h1
      match i, h1 with
      | 0, _ => simp [Array.getElem_setIfInBounds, hs]
      | 1, _ => simp [Array.getElem_setIfInBounds, hs]
      | 2, _ => simp [Array.getElem_setIfInBounds, hs]
  rw [hcs] at h3
  refine ⟨fun o v h => (blk_cell h3 o).trans h, IsT.set h2 (by decide) 2 v2 (IsT.set h1 (by decide) 1 v1 (IsT.set hb (by decide) 0 v0 h)), ?_⟩
  exact show Below _ _ _ from ((Below.setCell hg (p := ⟨b, 0, none⟩) hn v0).setCell (p := ⟨b, 1, none⟩) hn v1).setCell (p := ⟨b, 2, none⟩) hn v2

set_option maxRecDepth 100000 in
set_option maxHeartbeats 4000000 in
theorem first_nil {p : Option Addr} {r : Tr} {x : Ext} {W0 : World} (hl : IsT W0 p (Tr.node Tr.nil x r)) :
    Calls Tryz.prog 196 #[.pointer p] W0 (RetXT x r W0) := by
  obtain ⟨b, lp, rp, rfl, hb, rfl, hr⟩ := hl
  have hlt := (Array.getElem?_eq_some_iff.1 hb).1
  obtain ⟨n0, n1, n2, n3, n4⟩ := node_cellsX (X := OwnR W0.heap.size 1) hb (OwnR.not (.inl hlt))
  have hW := (Grw.alloc W0 (.cells #[.int .i64 0, .int .i64 0, .int .i64 0] 105)).x (X := OwnR W0.heap.size 1)
  go_enter Tryz.func196, Tryz.ntmps196
  go_wp2
  refine gx_region (OwnR W0.heap.size 1) [(0, true), (1, true), (2, true), (3, true), (4, true), (5, true), (6, true), (7, true), (8, false), (9, true)] (by kernel_rfl) (by kernel_rfl) (fun c a d v w1 h => by cases d <;> exact h) ?_
  intro A hA
  iterate 8 (apply gx_q hA rfl rfl; intro pp; go_simp; rfl; go_simp)
  refine gx_e hA rfl rfl (fun K hK => ?_)
  go_wp2
  refine ⟨GrwX.own (w := W0) (by go_simp) (by go_simp) (by simp) (by simp), ?_⟩
  iterate 1 (apply gx_q hA rfl rfl; intro pp; go_simp; rfl; go_simp)
  refine pi_nil ?_
  go_wp2
  refine bodyPost_ret (v := .tuple #[extV x, .pointer rp]) (by simp [results, Tryz.results196, go_sem]) rfl ⟨_, rfl, hr.grw (by go_simp), by go_simp⟩
set_option maxRecDepth 100000 in
set_option maxHeartbeats 4000000 in
theorem first_node {p : Option Addr} {a c r : Tr} {x y : Ext} {W0 : World} (hl : IsT W0 p (Tr.node (Tr.node a y c) x r)) (hf : fitL (Tr.node (Tr.node a y c) x r).toL)
    (ih : ∀ {q : Option Addr} {W1 : World}, IsT W1 q (Tr.node a y c) → Calls Tryz.prog 196 #[.pointer q] W1 (RetXT (Tr.node a y c).first.1 (Tr.node a y c).first.2 W1)) :
    Calls Tryz.prog 196 #[.pointer p] W0 (RetXT (Tr.node a y c).first.1 (Tr.join (Tr.node a y c).first.2 x r) W0) := by
  obtain ⟨b, lp, rp, rfl, hb, hlp, hr⟩ := hl
  have hlt := (Array.getElem?_eq_some_iff.1 hb).1
  have hlp0 := hlp
  obtain ⟨bl, lq, rq, rfl, -, -, -⟩ := hlp
  obtain ⟨n0, n1, n2, n3, n4⟩ := node_cellsX (X := OwnR W0.heap.size 1) hb (OwnR.not (.inl hlt))
  have hff : fitL ((Tr.node a y c).first.2.toL ++ x :: r.toL) := fitL.right (a := [(Tr.node a y c).first.1]) (by
    have := Tr.first_toL (Tr.node a y c) (by simp)
    rw [Tr.toL, this] at hf
    simpa using hf)
  have hW := Grw.alloc W0 (.cells #[.int .i64 0, .int .i64 0, .int .i64 0] 105)
  have hb0 := alloc_blk W0 (.cells #[.int .i64 0, .int .i64 0, .int .i64 0] 105)
  have hWx := hW.x (X := OwnR W0.heap.size 1)
  generalize (Tr.node a y c).first.1 = z at *
  generalize (Tr.node a y c).first.2 = T at *
  go_enter Tryz.func196, Tryz.ntmps196
  go_wp2_with (go_at_call 196; refine (ih (hlp0.grw (by go_simp))).mono ?_; rintro e w1 ⟨p1, rfl, t1, g1⟩; unfold extV)
  have g2 := (hW.then g1).alc (.cells #[.int .i64 z.at_, .int .i64 z.len, .int .i64 z.slot] 105)
  have g1' := g1.alc (.cells #[.int .i64 z.at_, .int .i64 z.len, .int .i64 z.slot] 105)
  obtain ⟨k0, k1, k2⟩ := ext_cellsX (X := OwnR W0.heap.size 1) (alloc_blk w1 (.cells #[.int .i64 z.at_, .int .i64 z.len, .int .i64 z.slot] 105)) (OwnR.not (.inr (by have := g1.size; simp at this; omega)))
  have t2 := t1.grw (Grw.alloc w1 (.cells #[.int .i64 z.at_, .int .i64 z.len, .int .i64 z.slot] 105))
  generalize w1.alloc (.cells #[.int .i64 z.at_, .int .i64 z.len, .int .i64 z.slot] 105) = W at g2 g1' k0 k1 k2 t2 ⊢
  have g2x := g2.x (X := OwnR W0.heap.size 1)
  clear hWx t1
  refine gx_region (OwnR W0.heap.size 1) [(0, true), (1, true), (2, true), (3, true), (4, true), (5, true), (6, true), (7, true), (8, true), (9, true), (10, false), (11, false), (12, true)] (by kernel_rfl) (by kernel_rfl) (fun c a d v w1 h => by cases d <;> exact h) ?_
  intro A hA
  iterate 10 (apply gx_q hA rfl rfl; intro pp; go_simp; rfl; go_simp)
  refine gx_e hA rfl rfl (fun K hK => ?_)
  go_wp2_with (go_at_call 197; refine (join_any t2 hr (Grw.drw _) (g2.then (Grw.drw _)) hff).mono ?_; rintro e w2 ⟨p2, rfl, t3, g3⟩)
  have g4 := (Grw.drw _).then g3
  refine ⟨g4.x, ?_⟩
  have hv := (g1'.then g4).blk hb0
  have v0 := blk_cell hv 0
  have v1 := blk_cell hv 1
  have v2 := blk_cell hv 2
  simp only [List.getElem?_toArray, List.getElem?_cons_succ, List.getElem?_cons_zero] at v0 v1 v2
  have f0 := blk_free hv 0
  have f1 := blk_free hv 1
  have f2 := blk_free hv 2
  refine gx_e hA rfl rfl (fun K hK => ?_)
  go_wp2
  refine ⟨((g4.x.set0 0 _).set0 1 _).set0 2 _, ?_⟩
  iterate 1 (apply gx_q hA rfl rfl; intro pp; go_simp; rfl; go_simp)
  refine pi_nil ?_
  go_wp2
  obtain ⟨q5, t4, g5⟩ := set_ext (.int .i64 z.at_) (.int .i64 z.len) (.int .i64 z.slot) hv t3 (g2.then g4) (Nat.le_refl _) rfl
  have q0 := q5 0 _ rfl
  have q1 := q5 1 _ rfl
  have q2 := q5 2 _ rfl
  clear q5
  refine bodyPost_ret (v := .tuple #[extV z, .pointer p2]) (by simp [results, Tryz.results196, go_sem, q0, q1, q2]) rfl ⟨_, rfl, t4, g5⟩
theorem first_any {t : Tr} : ∀ {p : Option Addr} {W0 : World}, t ≠ Tr.nil → IsT W0 p t → fitL t.toL →
    Calls Tryz.prog 196 #[.pointer p] W0 (RetXT t.first.1 t.first.2 W0) := by
  induction t with
  | nil => intro p W0 h _ _; exact absurd rfl h
  | node l x r ihl ihr =>
    intro p W0 _ h hf
    cases l with
    | nil => exact first_nil h
    | node a y c => exact first_node h hf (fun h1 => ihl (by simp) h1 (fitL.left (b := x :: r.toL) hf))
end Go.Proofs.YtbfdnfkflnajlaaGreat

/-! last. -/
namespace Go.Proofs.YtbfdnfkflnajlaaGreat
open Go.RowKit
open Ext hiding One

set_option maxRecDepth 100000 in
set_option maxHeartbeats 4000000 in
theorem last_nil {p : Option Addr} {r : Tr} {x : Ext} {W0 : World} (hl : IsT W0 p (Tr.node r x Tr.nil)) :
    Calls Tryz.prog 194 #[.pointer p] W0 (RetXT x r W0) := by
  obtain ⟨b, lp, rp, rfl, hb, hr, rfl⟩ := hl
  have hlt := (Array.getElem?_eq_some_iff.1 hb).1
  obtain ⟨n0, n1, n2, n3, n4⟩ := node_cellsX (X := OwnR W0.heap.size 1) hb (OwnR.not (.inl hlt))
  have hW := (Grw.alloc W0 (.cells #[.int .i64 0, .int .i64 0, .int .i64 0] 105)).x (X := OwnR W0.heap.size 1)
  go_enter Tryz.func194, Tryz.ntmps194
  go_wp2
  refine gx_region (OwnR W0.heap.size 1) [(0, true), (1, true), (2, true), (3, true), (4, true), (5, true), (6, true), (7, true), (8, false), (9, true)] (by kernel_rfl) (by kernel_rfl) (fun c a d v w1 h => by cases d <;> exact h) ?_
  intro A hA
  iterate 8 (apply gx_q hA rfl rfl; intro pp; go_simp; rfl; go_simp)
  refine gx_e hA rfl rfl (fun K hK => ?_)
  go_wp2
  refine ⟨GrwX.own (w := W0) (by go_simp) (by go_simp) (by simp) (by simp), ?_⟩
  iterate 1 (apply gx_q hA rfl rfl; intro pp; go_simp; rfl; go_simp)
  refine pi_nil ?_
  go_wp2
  refine bodyPost_ret (v := .tuple #[extV x, .pointer lp]) (by simp [results, Tryz.results194, go_sem]) rfl ⟨_, rfl, hr.grw (by go_simp), by go_simp⟩
set_option maxRecDepth 100000 in
set_option maxHeartbeats 4000000 in
theorem last_node {p : Option Addr} {a c r : Tr} {x y : Ext} {W0 : World} (hl : IsT W0 p (Tr.node r x (Tr.node a y c))) (hf : fitL (Tr.node r x (Tr.node a y c)).toL)
    (ih : ∀ {q : Option Addr} {W1 : World}, IsT W1 q (Tr.node a y c) → Calls Tryz.prog 194 #[.pointer q] W1 (RetXT (Tr.node a y c).last.1 (Tr.node a y c).last.2 W1)) :
    Calls Tryz.prog 194 #[.pointer p] W0 (RetXT (Tr.node a y c).last.1 (Tr.join r x (Tr.node a y c).last.2) W0) := by
  obtain ⟨b, rp, lp, rfl, hb, hr, hlp⟩ := hl
  have hlt := (Array.getElem?_eq_some_iff.1 hb).1
  have hlp0 := hlp
  obtain ⟨bl, lq, rq, rfl, -, -, -⟩ := hlp
  obtain ⟨n0, n1, n2, n3, n4⟩ := node_cellsX (X := OwnR W0.heap.size 1) hb (OwnR.not (.inl hlt))
  have hff : fitL (r.toL ++ x :: (Tr.node a y c).last.2.toL) := fitL.left (b := [(Tr.node a y c).last.1]) (by
    have := Tr.last_toL (Tr.node a y c) (by simp)
    rw [Tr.toL, this] at hf
    simpa using hf)
  have hW := Grw.alloc W0 (.cells #[.int .i64 0, .int .i64 0, .int .i64 0] 105)
  have hb0 := alloc_blk W0 (.cells #[.int .i64 0, .int .i64 0, .int .i64 0] 105)
  have hWx := hW.x (X := OwnR W0.heap.size 1)
  generalize (Tr.node a y c).last.1 = z at *
  generalize (Tr.node a y c).last.2 = T at *
  go_enter Tryz.func194, Tryz.ntmps194
  go_wp2_with (go_at_call 194; refine (ih (hlp0.grw (by go_simp))).mono ?_; rintro e w1 ⟨p1, rfl, t1, g1⟩; unfold extV)
  have g2 := (hW.then g1).alc (.cells #[.int .i64 z.at_, .int .i64 z.len, .int .i64 z.slot] 105)
  have g1' := g1.alc (.cells #[.int .i64 z.at_, .int .i64 z.len, .int .i64 z.slot] 105)
  obtain ⟨k0, k1, k2⟩ := ext_cellsX (X := OwnR W0.heap.size 1) (alloc_blk w1 (.cells #[.int .i64 z.at_, .int .i64 z.len, .int .i64 z.slot] 105)) (OwnR.not (.inr (by have := g1.size; simp at this; omega)))
  have t2 := t1.grw (Grw.alloc w1 (.cells #[.int .i64 z.at_, .int .i64 z.len, .int .i64 z.slot] 105))
  generalize w1.alloc (.cells #[.int .i64 z.at_, .int .i64 z.len, .int .i64 z.slot] 105) = W at g2 g1' k0 k1 k2 t2 ⊢
  have g2x := g2.x (X := OwnR W0.heap.size 1)
  clear hWx t1
  refine gx_region (OwnR W0.heap.size 1) [(0, true), (1, true), (2, true), (3, true), (4, true), (5, true), (6, true), (7, true), (8, true), (9, true), (10, false), (11, false), (12, true)] (by kernel_rfl) (by kernel_rfl) (fun c a d v w1 h => by cases d <;> exact h) ?_
  intro A hA
  iterate 10 (apply gx_q hA rfl rfl; intro pp; go_simp; rfl; go_simp)
  refine gx_e hA rfl rfl (fun K hK => ?_)
  go_wp2_with (go_at_call 197; refine (join_any hr t2 (g2.then (Grw.drw _)) (Grw.drw _) hff).mono ?_; rintro e w2 ⟨p2, rfl, t3, g3⟩)
  have g4 := (Grw.drw _).then g3
  refine ⟨g4.x, ?_⟩
  have hv := (g1'.then g4).blk hb0
  have v0 := blk_cell hv 0
  have v1 := blk_cell hv 1
  have v2 := blk_cell hv 2
  simp only [List.getElem?_toArray, List.getElem?_cons_succ, List.getElem?_cons_zero] at v0 v1 v2
  have f0 := blk_free hv 0
  have f1 := blk_free hv 1
  have f2 := blk_free hv 2
  refine gx_e hA rfl rfl (fun K hK => ?_)
  go_wp2
  refine ⟨((g4.x.set0 0 _).set0 1 _).set0 2 _, ?_⟩
  iterate 1 (apply gx_q hA rfl rfl; intro pp; go_simp; rfl; go_simp)
  refine pi_nil ?_
  go_wp2
  obtain ⟨q5, t4, g5⟩ := set_ext (.int .i64 z.at_) (.int .i64 z.len) (.int .i64 z.slot) hv t3 (g2.then g4) (Nat.le_refl _) rfl
  have q0 := q5 0 _ rfl
  have q1 := q5 1 _ rfl
  have q2 := q5 2 _ rfl
  clear q5
  refine bodyPost_ret (v := .tuple #[extV z, .pointer p2]) (by simp [results, Tryz.results194, go_sem, q0, q1, q2]) rfl ⟨_, rfl, t4, g5⟩
theorem last_any {t : Tr} : ∀ {p : Option Addr} {W0 : World}, t ≠ Tr.nil → IsT W0 p t → fitL t.toL →
    Calls Tryz.prog 194 #[.pointer p] W0 (RetXT t.last.1 t.last.2 W0) := by
  induction t with
  | nil => intro p W0 h _ _; exact absurd rfl h
  | node l x r ihl ihr =>
    intro p W0 _ h hf
    cases r with
    | nil => exact last_nil h
    | node a y c => exact last_node h hf (fun h1 => ihr (by simp) h1 (fitL.right (a := l.toL ++ [x]) (by simpa [Tr.toL] using hf)))
end Go.Proofs.YtbfdnfkflnajlaaGreat

/-! concat, split. -/
namespace Go.Proofs.YtbfdnfkflnajlaaGreat
open Go.RowKit
open Ext hiding One

def RetTT (t u : Tr) (w : World) (e : Ending) (w' : World) : Prop := ∃ p q, e = .returned (.tuple #[.pointer p, .pointer q]) ∧ IsT w' p t ∧ IsT w' q u ∧ Grw w w'

set_option maxRecDepth 100000 in
set_option maxHeartbeats 1000000 in
theorem concat_any {p q : Option Addr} {l r : Tr} {W0 : World} (hl : IsT W0 p l) (hr : IsT W0 q r) (hf : fitL (l.toL ++ r.toL)) :
    Calls Tryz.prog 169 #[.pointer p, .pointer q] W0 (RetT (Tr.concat l r) W0) := by
  cases r with
  | nil =>
    obtain rfl : q = none := hr
    go_enter Tryz.func169, Tryz.ntmps169
    go_wp2
    go_ret
    exact ⟨_, rfl, hl, Grw.self _⟩
  | node a x c =>
    have hr0 := hr
    obtain ⟨b, lp, rp, rfl, hb, -, -⟩ := hr
    have h1 := Tr.first_toL (Tr.node a x c) (by simp)
    have hf2 : fitL (l.toL ++ (Tr.node a x c).first.1 :: (Tr.node a x c).first.2.toL) := by rw [h1] at hf; exact hf
    have hc := @first_any (Tr.node a x c) _ W0 (by simp) hr0 hf.right
    unfold Tr.concat
    simp only
    generalize (Tr.node a x c).first.1 = z at *
    generalize (Tr.node a x c).first.2 = T at *
    clear h1 hf
    go_enter Tryz.func169, Tryz.ntmps169
    go_wp2_with (first
      | (go_at_call 196; refine hc.mono ?_; clear hc; rintro e w1 ⟨p1, rfl, t1, g1⟩; unfold extV)
      | (go_at_call 197; refine (join_any hl t1 (by go_simp) (by go_simp) hf2).mono ?_; rintro e w2 ⟨p2, rfl, t2, g2⟩))
    go_ret
    exact ⟨_, rfl, t2, g1.then ((Grw.alloc _ _).then g2)⟩

theorem VL_pp {A C : List Ext} (h : VL (A ++ C)) (a b c d : Int) : VL (partsL A a b ++ partsL C c d) := by
  have h2 := List.pairwise_append.1 h.2
  have hA : VL A := ⟨fun y hy => h.1 y (by simp [hy]), h2.1⟩
  have hC : VL C := ⟨fun y hy => h.1 y (by simp [hy]), h2.2.1⟩
  have pA := parts_VL hA a b
  have pC := parts_VL hC c d
  refine ⟨fun y hy => (List.mem_append.1 hy).elim (pA.1 y) (pC.1 y), List.pairwise_append.2 ⟨pA.2, pC.2, fun y hy z hz => ?_⟩⟩
  obtain ⟨u, hu, pu⟩ := List.mem_filterMap.1 hy
  obtain ⟨v, hv, pv⟩ := List.mem_filterMap.1 hz
  have k1 := partE_some pu
  have k2 := partE_some pv
  have k3 := h2.2.2 u hu v hv
  unfold sep at *
  omega
theorem parts_self {A : List Ext} (h : VL A) : partsL A 0 65536 = A := parts_all (fun x hx => by have := h.1 x hx; refine ⟨this, ?_⟩; unfold Ext.One at this; omega)

set_option maxRecDepth 100000 in
set_option maxHeartbeats 2000000 in
theorem split_a {p : Option Addr} {l r : Tr} {x : Ext} {k : Int} {W0 : World} (hl : IsT W0 p (Tr.node l x r)) (hv : VL (Tr.node l x r).toL) (h1 : k ≤ x.at_)
    (ih : ∀ {q : Option Addr} {W1 : World}, IsT W1 q l → Calls Tryz.prog 168 #[.pointer q, .int .i64 k] W1 (RetTT (Tr.split k l).1 (Tr.split k l).2 W1)) :
    Calls Tryz.prog 168 #[.pointer p, .int .i64 k] W0 (RetTT (Tr.split k (Tr.node l x r)).1 (Tr.split k (Tr.node l x r)).2 W0) := by
  have hff := hv.fit
  obtain ⟨hvl, hvr, hxo, -, -⟩ := VL_mid hv
  unfold Ext.One at hxo
  obtain ⟨o1, o2, o3, o4, o5⟩ := hxo
  obtain ⟨b, lp, rp, rfl, hb, hlp, hrp⟩ := hl
  obtain ⟨n0, n1, n2, n3, n4⟩ := node_cells hb
  rw [Tr.split]
  rw [if_pos h1]
  have hf2 : fitL ((Tr.split k l).2.toL ++ x :: r.toL) := by
    rw [(split_parts hvl k).2]
    have hvl' : VL (x :: r.toL) := ⟨fun y hy => hv.1 y (by simp only [Tr.toL]; exact List.mem_append_right _ hy), (List.pairwise_append.1 hv.2).2.1⟩
    have := VL_pp (A := l.toL) (C := x :: r.toL) hv k 65536 0 65536
    rw [parts_self hvl'] at this
    exact this.fit
  generalize (Tr.split k l).1 = T1 at *
  generalize (Tr.split k l).2 = T2 at *
  have c1 := fun (W1 : World) (hg : Grw W0 W1) => ih (hlp.grw hg)
  clear ih
  go_enter Tryz.func168, Tryz.ntmps168
  go_wp2_with (go_at_call 168; refine (c1 _ (by go_simp)).mono ?_; clear c1; rintro e w1 ⟨p1, q1, rfl, t1, u1, g1⟩)
  have hW := Grw.alloc W0 (.cells #[.int .i64 x.at_, .int .i64 x.len, .int .i64 x.slot] 105)
  obtain ⟨k0, k1, k2⟩ := ext_cells (alloc_blk W0 (.cells #[.int .i64 x.at_, .int .i64 x.len, .int .i64 x.slot] 105))
  have g2 := hW.then g1
  refine gw_region [(0, true), (1, true), (2, true), (3, true), (4, true), (5, true), (6, true), (7, false), (8, true), (9, true)] (by kernel_rfl) (by kernel_rfl) (fun c a d v w1 h => by cases d <;> exact h) ?_
  intro A hA
  iterate 7 (apply gw_q hA rfl rfl; intro pp; go_simp; rfl; go_simp)
  refine gw_e hA rfl rfl (fun K hK => ?_)
  go_wp2_with (go_at_call 197; refine (join_any u1 hrp (by go_simp) (by go_simp) hf2).mono ?_; rintro e w2 ⟨p2, rfl, t2, g3⟩)
  have gg2 : Grw w1 w2 := (Grw.drw _).then g3
  refine ⟨gg2, ?_⟩
  iterate 2 (apply gw_q hA rfl rfl; intro pp; go_simp; rfl; go_simp)
  refine pi_nil ?_
  go_wp2
  go_ret2
  exact ⟨_, _, rfl, t1.grw gg2, t2, g2.then gg2⟩
set_option maxRecDepth 100000 in
set_option maxHeartbeats 2000000 in
theorem split_b {p : Option Addr} {l r : Tr} {x : Ext} {k : Int} {W0 : World} (hl : IsT W0 p (Tr.node l x r)) (hv : VL (Tr.node l x r).toL) (h1 : ¬ k ≤ x.at_) (h2 : k ≥ x.at_ + x.len)
    (ih : ∀ {q : Option Addr} {W1 : World}, IsT W1 q r → Calls Tryz.prog 168 #[.pointer q, .int .i64 k] W1 (RetTT (Tr.split k r).1 (Tr.split k r).2 W1)) :
    Calls Tryz.prog 168 #[.pointer p, .int .i64 k] W0 (RetTT (Tr.split k (Tr.node l x r)).1 (Tr.split k (Tr.node l x r)).2 W0) := by
  have hff := hv.fit
  obtain ⟨hvl, hvr, hxo, -, -⟩ := VL_mid hv
  unfold Ext.One at hxo
  obtain ⟨o1, o2, o3, o4, o5⟩ := hxo
  obtain ⟨b, lp, rp, rfl, hb, hlp, hrp⟩ := hl
  obtain ⟨n0, n1, n2, n3, n4⟩ := node_cells hb
  rw [Tr.split]
  rw [if_neg h1, if_pos h2]
  have hf2 : fitL (l.toL ++ x :: (Tr.split k r).1.toL) := by
    rw [(split_parts hvr k).1]
    have hvl' : VL (l.toL ++ [x]) := ⟨fun y hy => hv.1 y (by simp only [Tr.toL]; simp only [List.mem_append, List.mem_cons, List.not_mem_nil, or_false] at hy ⊢; rcases hy with hy | hy <;> simp [hy]), by
      have := hv.2
      simp only [Tr.toL] at this
      rw [show l.toL ++ x :: r.toL = (l.toL ++ [x]) ++ r.toL by simp] at this
      exact (List.pairwise_append.1 this).1⟩
    have := VL_pp (A := l.toL ++ [x]) (C := r.toL) (by simpa [Tr.toL] using hv) 0 65536 0 k
    rw [parts_self hvl'] at this
    simpa using this.fit
  generalize (Tr.split k r).1 = T1 at *
  generalize (Tr.split k r).2 = T2 at *
  have c1 := fun (W1 : World) (hg : Grw W0 W1) => ih (hrp.grw hg)
  clear ih
  go_enter Tryz.func168, Tryz.ntmps168
  go_wp2_with (go_at_call 168; refine (c1 _ (by go_simp)).mono ?_; clear c1; rintro e w1 ⟨p1, q1, rfl, t1, u1, g1⟩)
  have hW := Grw.alloc W0 (.cells #[.int .i64 x.at_, .int .i64 x.len, .int .i64 x.slot] 105)
  obtain ⟨k0, k1, k2⟩ := ext_cells (alloc_blk W0 (.cells #[.int .i64 x.at_, .int .i64 x.len, .int .i64 x.slot] 105))
  have g2 := hW.then g1
  refine gw_region [(0, true), (1, true), (2, true), (3, true), (4, true), (5, true), (7, true), (6, false), (8, true), (9, true)] (by kernel_rfl) (by kernel_rfl) (fun c a d v w1 h => by cases d <;> exact h) ?_
  intro A hA
  iterate 7 (apply gw_q hA rfl rfl; intro pp; go_simp; rfl; go_simp)
  refine gw_e hA rfl rfl (fun K hK => ?_)
  go_wp2_with (go_at_call 197; refine (join_any hlp t1 (by go_simp) (by go_simp) hf2).mono ?_; rintro e w2 ⟨p2, rfl, t2, g3⟩)
  have gg2 : Grw w1 w2 := (Grw.drw _).then g3
  refine ⟨gg2, ?_⟩
  iterate 2 (apply gw_q hA rfl rfl; intro pp; go_simp; rfl; go_simp)
  refine pi_nil ?_
  go_wp2
  go_ret2
  exact ⟨_, _, rfl, t2, u1.grw gg2, g2.then gg2⟩
set_option maxRecDepth 100000 in
set_option maxHeartbeats 2000000 in
theorem split_c {p : Option Addr} {l r : Tr} {x : Ext} {k : Int} {W0 : World} (hl : IsT W0 p (Tr.node l x r)) (hv : VL (Tr.node l x r).toL) (h1 : ¬ k ≤ x.at_) (h2 : ¬ k ≥ x.at_ + x.len) :
    Calls Tryz.prog 168 #[.pointer p, .int .i64 k] W0 (RetTT (Tr.split k (Tr.node l x r)).1 (Tr.split k (Tr.node l x r)).2 W0) := by
  have hff := hv.fit
  obtain ⟨hvl, hvr, hxo, -, -⟩ := VL_mid hv
  unfold Ext.One at hxo
  obtain ⟨o1, o2, o3, o4, o5⟩ := hxo
  obtain ⟨b, lp, rp, rfl, hb, hlp, hrp⟩ := hl
  obtain ⟨n0, n1, n2, n3, n4⟩ := node_cells hb
  rw [Tr.split]
  rw [if_neg h1, if_neg h2]
  have hf2 : fitL (l.toL ++ (⟨x.at_, k - x.at_, x.slot⟩ : Ext) :: Tr.nil.toL) := by
    have hvl' : VL l.toL := hvl
    have h3 := VL_pp (A := l.toL) (C := x :: r.toL) hv 0 65536 x.at_ k
    rw [parts_self hvl', parts_cons] at h3
    have e : partE x x.at_ k = some ⟨x.at_, k - x.at_, x.slot⟩ := by
      unfold partE; rw [if_pos (by omega)]; exact congrArg some (ext_mk' (by omega) (by omega) (by omega))
    rw [e] at h3
    exact fitL.left (b := partsL r.toL x.at_ k) (by simpa [Tr.toL] using h3.fit)
  have hf3 : fitL (Tr.nil.toL ++ (⟨k, x.len - (k - x.at_), x.slot + (k - x.at_)⟩ : Ext) :: r.toL) := by
    have hvr' : VL r.toL := hvr
    have h3 := VL_pp (A := l.toL ++ [x]) (C := r.toL) (by simpa [Tr.toL] using hv) k 65536 0 65536
    have e : partE x k 65536 = some ⟨k, x.len - (k - x.at_), x.slot + (k - x.at_)⟩ := by
      unfold partE; rw [if_pos (by omega)]; exact congrArg some (ext_mk' (by omega) (by omega) (by omega))
    have e2 : partsL (l.toL ++ [x]) k 65536 = partsL l.toL k 65536 ++ [⟨k, x.len - (k - x.at_), x.slot + (k - x.at_)⟩] := by
      unfold partsL; rw [List.filterMap_append]; simp [e]
    rw [parts_self hvr', e2] at h3
    have h4 := h3.fit
    rw [List.append_assoc] at h4
    simpa [Tr.toL] using h4.right
  go_enter Tryz.func168, Tryz.ntmps168
  go_wp2
  have hW := Grw.alloc W0 (.cells #[.int .i64 x.at_, .int .i64 x.len, .int .i64 x.slot] 105)
  obtain ⟨k0, k1, k2⟩ := ext_cells (alloc_blk W0 (.cells #[.int .i64 x.at_, .int .i64 x.len, .int .i64 x.slot] 105))
  generalize W0.alloc (.cells #[.int .i64 x.at_, .int .i64 x.len, .int .i64 x.slot] 105) = W at hW k0 k1 k2 ⊢
  refine gw_region [(0, true), (1, true), (2, true), (3, true), (4, true), (5, true), (6, true), (7, true), (8, true), (9, true), (10, true), (11, true), (12, false), (13, false)] (by kernel_rfl) (by kernel_rfl) (fun c a d v w1 h => by cases d <;> exact h) ?_
  intro A hA
  iterate 12 (apply gw_q hA rfl rfl; intro pp; go_simp; rfl; go_simp)
  refine gw_e hA rfl rfl (fun K hK => ?_)
  go_wp2
  refine ⟨by go_simp, ?_⟩
  refine gw_e hA rfl rfl (fun K hK => ?_)
  go_wp2
  refine ⟨by go_simp, ?_⟩
  refine pi_nil ?_
  go_wp2
  have hH := (Grw.drw _).blk (alloc_blk W (.cells #[.int .i64 x.at_, .int .i64 (k - x.at_), .int .i64 x.slot] 105))
  have gH := (Grw.alloc W (.cells #[.int .i64 x.at_, .int .i64 (k - x.at_), .int .i64 x.slot] 105)).then (Grw.drw _)
  obtain ⟨m0, m1, m2⟩ := ext_cells (x := ⟨x.at_, k - x.at_, x.slot⟩) hH
  simp only at m0 m1 m2
  have gH0 := hW.then gH
  clear hH
  generalize (W.alloc (.cells #[.int .i64 x.at_, .int .i64 (k - x.at_), .int .i64 x.slot] 105)).drew = V at gH gH0 m0 m1 m2 ⊢
  refine gw_region [(0, true), (1, true), (2, true), (3, true), (4, true), (5, true), (6, true), (7, true), (8, true), (9, true), (10, true), (11, true), (12, true), (13, true), (14, true), (15, true), (16, false), (17, false)] (by kernel_rfl) (by kernel_rfl) (fun c a d v w1 h => by cases d <;> exact h) ?_
  intro A hA
  iterate 16 (apply gw_q hA rfl rfl; intro pp; go_simp; rfl; go_simp)
  refine gw_e hA rfl rfl (fun K hK => ?_)
  go_wp2
  refine ⟨by go_simp, ?_⟩
  refine gw_e hA rfl rfl (fun K hK => ?_)
  go_wp2
  refine ⟨by go_simp, ?_⟩
  refine pi_nil ?_
  go_wp2
  have hT := (Grw.drw _).blk (alloc_blk V (.cells #[.int .i64 k, .int .i64 (x.len - (k - x.at_)), .int .i64 (x.slot + (k - x.at_))] 105))
  have gT := (Grw.alloc V (.cells #[.int .i64 k, .int .i64 (x.len - (k - x.at_)), .int .i64 (x.slot + (k - x.at_))] 105)).then (Grw.drw _)
  obtain ⟨s0, s1, s2⟩ := ext_cells (x := ⟨k, x.len - (k - x.at_), x.slot + (k - x.at_)⟩) hT
  simp only at s0 s1 s2
  have gT0 := gH0.then gT
  clear hT
  generalize (V.alloc (.cells #[.int .i64 k, .int .i64 (x.len - (k - x.at_)), .int .i64 (x.slot + (k - x.at_))] 105)).drew = U at gT gT0 s0 s1 s2 ⊢
  refine gw_region [(0, true), (1, true), (2, true), (3, true), (4, true), (6, true), (7, true), (8, true), (9, true), (10, true), (5, false), (11, false), (12, true), (13, true)] (by kernel_rfl) (by kernel_rfl) (fun c a d v w1 h => by cases d <;> exact h) ?_
  intro A hA
  iterate 10 (apply gw_q hA rfl rfl; intro pp; go_simp; rfl; go_simp)
  refine gw_e hA rfl rfl (fun K hK => ?_)
  go_wp2_with (go_at_call 197; refine (join_any (l := l) (r := Tr.nil) (x := ⟨x.at_, k - x.at_, x.slot⟩) hlp (w2 := W0) rfl (by go_simp) (by go_simp) hf2).mono ?_; rintro e w1 ⟨p1, rfl, t1, g1⟩)
  have gg1 : Grw U w1 := (Grw.drw _).then g1
  refine ⟨gg1, ?_⟩
  refine gw_e hA rfl rfl (fun K hK => ?_)
  go_wp2_with (go_at_call 197; refine (join_any (l := Tr.nil) (r := r) (x := ⟨k, x.len - (k - x.at_), x.slot + (k - x.at_)⟩) (w1 := W0) rfl hrp (gT0.then gg1) (gT0.then gg1) hf3).mono ?_; rintro e w2 ⟨p2, rfl, t2, g2⟩)
  refine ⟨gg1.then g2, ?_⟩
  iterate 2 (apply gw_q hA rfl rfl; intro pp; go_simp; rfl; go_simp)
  refine pi_nil ?_
  go_wp2
  go_ret2
  exact ⟨_, _, rfl, t1.grw g2, t2, gT0.then (gg1.then g2)⟩
theorem split_any (k : Int) {t : Tr} : ∀ {p : Option Addr} {W0 : World}, IsT W0 p t → VL t.toL →
    Calls Tryz.prog 168 #[.pointer p, .int .i64 k] W0 (RetTT (Tr.split k t).1 (Tr.split k t).2 W0) := by
  induction t with
  | nil =>
    intro p W0 h _
    obtain rfl : p = none := h
    go_enter Tryz.func168, Tryz.ntmps168
    go_wp2
    go_ret2
    exact ⟨_, _, rfl, rfl, rfl, Grw.self _⟩
  | node l x r ihl ihr =>
    intro p W0 h hv
    obtain ⟨hvl, hvr, -, -, -⟩ := VL_mid hv
    by_cases h1 : k ≤ x.at_
    · exact split_a h hv h1 (fun h2 => ihl h2 hvl)
    · by_cases h2 : k ≥ x.at_ + x.len
      · exact split_b h hv h1 h2 (fun h3 => ihr h3 hvr)
      · exact split_c h hv h1 h2
end Go.Proofs.YtbfdnfkflnajlaaGreat

/-! walk, list: the extents of a tree, collected in a row of the call's own. -/
namespace Go.Proofs.YtbfdnfkflnajlaaGreat
open Go.RowKit
open Ext hiding One

theorem infoE : (Tryz.prog.info? 105).map (fun i => (i.zero, i.size, i.bytes)) = some (some (.agg #[.int .i64 0, .int .i64 0, .int .i64 0]), 3, 24) := by kernel_rfl
/-- what has been collected in the variable at block B. -/
def Coll (w0 : World) (B : Nat) (xs : List Ext) (W : World) : Prop :=
  Grw w0 W ∧ w0.heap.size ≤ B ∧ ∃ v, W.heap[B]? = some (.cells #[v] 40 (0, 0)) ∧ OwnE W (B + 1) v xs

theorem ext_one (x : Ext) : ∀ u ∈ extC x, u.oneCell' = true := by intro u hu; simp [extC] at hu; rcases hu with rfl | rfl | rfl <;> rfl
theorem news2 (W : World) (x : Ext) : ∀ j u, (extC x)[j]? = some u → ((W.alloc (.cells #[.int .i64 x.at_, .int .i64 x.len, .int .i64 x.slot] 105)).alloc (.cells #[.int .i64 x.at_, .int .i64 x.len, .int .i64 x.slot] 105)).cell? ((⟨W.heap.size + 1, 0, none⟩ : Addr).add j) = some u := by
  have := World.news_of_block (w := (W.alloc (.cells #[.int .i64 x.at_, .int .i64 x.len, .int .i64 x.slot] 105)).alloc (.cells #[.int .i64 x.at_, .int .i64 x.len, .int .i64 x.slot] 105)) (cs := #[.int .i64 x.at_, .int .i64 x.len, .int .i64 x.slot]) (t := 105) (fr := (0, 0)) (heap_alloc_new _ _)
  simpa [extC] using this

theorem own_ne {W : World} {B : Nat} {v : Value} {xs : List Ext} (h : OwnE W (B + 1) v xs) : v.ownBlock ≠ some B := by
  rcases h.2 with ⟨rfl, _⟩ | ⟨g, cap, cur, rfl, hb, _⟩
  · simp [Value.ownBlock]
  · simp [Value.ownBlock]; omega
theorem own_base' {W : World} {B : Nat} {v : Value} {xs : List Ext} (h : OwnE W B v xs) (k : Nat) (hk : v.ownBlock = some k) : B ≤ k := by
  rcases h.2 with ⟨rfl, _⟩ | ⟨g, cap, cur, rfl, hb, _⟩
  · simp [Value.ownBlock] at hk
  · simp [Value.ownBlock] at hk; omega
theorem coll_blk {W w1 : World} {B : Nat} {v : Value} {xs : List Ext} {o1 o2 : Obj} (hb : W.heap[B]? = some (.cells #[v] 40 (0, 0))) (hown : OwnE W (B + 1) v xs)
    (hg : ((W.alloc o1).alloc o2).grownBy w1 v.ownBlock) : w1.heap[B]? = some (.cells #[v] 40 (0, 0)) := by
  have hlt := (Array.getElem?_eq_some_iff.1 hb).1
  rw [hg.block B (by simp; omega) (Ne.symm (own_ne hown)), Below.heap_alloc _ _ _ (by simp; omega), Below.heap_alloc _ _ _ hlt]
  exact hb

set_option maxRecDepth 100000 in
set_option maxHeartbeats 1000000 in
theorem list1_any {w0 W : World} {B : Nat} {xs : List Ext} {x : Ext} (hJ : Coll w0 B xs W) (hn : xs.length + 1 ≤ 1000000) :
    Calls Tryz.prog 209 #[extV x, .pointer (some ⟨B, 0, none⟩)] W fun e w' => e = .returned (.bool true) ∧ Coll w0 B (xs ++ [x]) w' := by
  obtain ⟨hg, hB, v, hb, hown⟩ := hJ
  obtain ⟨i0, hi, hz0, hz1, hz2⟩ := info_parts infoE
  have hlt := (Array.getElem?_eq_some_iff.1 hb).1
  have c0 := blk_cell hb 0
  simp only [List.getElem?_toArray, List.getElem?_cons_zero] at c0
  have hnews := news2 W x
  unfold extV
  go_enter Tryz.func209, Tryz.ntmps209
  go_wp2_with (at_builtin; refine wpList_append_lies _ rfl _ _ 40 rfl (B + 1) 105 i0 _ 3 24 Tryz.underlying40 hi hz0 hz1 hz2 rfl (by decide) v xs.length (flat extC xs) rfl ((World.ownsRow.alloc hown _).alloc _) ⟨W.heap.size + 1, 0, none⟩ 1 1 (extC x) rfl rfl hnews (ext_one x) (by decide) (by unfold maxLen; omega) (by omega) (by simp; omega) (W.heap.size + 2) (by simp) ?_; intro g cap w1 hown1 hgrow hat hgl; have hB1 := coll_blk hb hown hgrow; obtain ⟨d0, d1⟩ := var_facts hB1)
  go_ret
  have hbase : ∀ k, v.ownBlock = some k → w0.heap.size ≤ k := fun k hk => by have := own_base' hown k hk; omega
  refine ⟨rfl, ?_, hB, ?_⟩
  · have g1 : Grw w0 _ := (hg.alc (.cells #[.int .i64 x.at_, .int .i64 x.len, .int .i64 x.slot] 105)).alc (.cells #[.int .i64 x.at_, .int .i64 x.len, .int .i64 x.slot] 105)
    exact show Below _ _ _ from (Below.grown g1 hgrow g1.size hbase).setCell (p := ⟨B, 0, none⟩) hB _
  · refine ⟨_, by simpa using setCell_blk hB1 0 _, ?_⟩
    have := ownsRow_setCell_below hown1 (a := ⟨B, 0, none⟩) (Nat.lt_succ_self B) (.slice (some ⟨g, 0, none⟩) (xs.length + 1) cap)
    unfold OwnE
    rw [flat_snoc, List.length_append]
    exact this

/-- a closure that collects, called for each extent of a tree. -/
theorem node_mid {l r : Tr} {x : Ext} (xs : List Ext) : xs ++ (Tr.node l x r).toL = xs ++ l.toL ++ [x] ++ r.toL := by simp [Tr.toL]

set_option maxRecDepth 100000 in
set_option maxHeartbeats 1000000 in
theorem walk_any {w0 : World} {B : Nat} {t : Tr} : ∀ {p : Option Addr} {W : World} {xs : List Ext}, IsT w0 p t → Coll w0 B xs W → xs.length + t.toL.length ≤ 1000000 →
    Calls Tryz.prog 193 #[.pointer p, .func (.func 209) #[] #[.pointer (some ⟨B, 0, none⟩)]] W fun e w' => e = .returned (.bool true) ∧ Coll w0 B (xs ++ t.toL) w' := by
  induction t with
  | nil =>
    intro p W xs h hJ _
    obtain rfl : p = none := h
    go_enter Tryz.func193, Tryz.ntmps193
    go_wp2
    go_ret
    exact ⟨rfl, by simpa [Tr.toL] using hJ⟩
  | node l x r ihl ihr =>
    intro p W xs h hJ hn
    obtain ⟨b, lp, rp, rfl, hb, hl, hr⟩ := h
    obtain ⟨n0, n1, n2, n3, n4⟩ := node_cells hb
    rw [node_mid]
    simp only [Tr.toL, List.length_append, List.length_cons] at hn
    have c1 := ihl hl hJ (by omega)
    have hg0 := hJ.1
    clear ihl hJ hl hb
    go_enter Tryz.func193, Tryz.ntmps193
    go_wp2_with (go_at_call 193; refine c1.mono ?_; clear c1; rintro e w1 ⟨rfl, hJ1⟩; have hg1 := hJ1.1)
    refine (list1_any (x := x) hJ1 (by simp only [List.length_append]; omega)).mono ?_
    clear hJ1
    rintro e w2 ⟨rfl, hJ2⟩
    have hg2 := hJ2.1
    go_wp2_with (go_at_call 193; refine (ihr hr hJ2 (by simp only [List.length_append, List.length_cons, List.length_nil]; omega)).mono ?_; clear ihr; rintro e w3 ⟨rfl, hJ3⟩)
    go_ret
    exact ⟨rfl, hJ3⟩

def RetE (base : Nat) (l : List Ext) (w : World) (e : Ending) (w' : World) : Prop := ∃ v, e = .returned v ∧ OwnE w' base v l ∧ Grw w w'

set_option maxRecDepth 100000 in
set_option maxHeartbeats 1000000 in
theorem list_any {t : Tr} {p : Option Addr} {W0 : World} (h : IsT W0 p t) (hf : fitL t.toL) :
    Calls Tryz.prog 170 #[.pointer p] W0 (RetE W0.heap.size t.toL W0) := by
  have h1 := hf.1
  have hJ : Coll W0 W0.heap.size [] (W0.alloc (.cells #[.slice none 0 0] 40)) := ⟨Grw.alloc _ _, Nat.le_refl _, _, alloc_blk _ _, OwnE.nil _ _⟩
  have c1 := walk_any (xs := []) h hJ (by simp only [List.length_nil]; omega)
  clear hJ
  have hmf : ∀ (fn : Fn) (first cap : Array Value) (w : World), (Instr.makeFunc fn first cap).run Tryz.prog w = .ok (.func fn first cap) w := fun _ _ _ _ => rfl
  go_enter Tryz.func170, Tryz.ntmps170
  go_wp2_with (go_at_call 193; refine c1.mono ?_; clear c1; rintro e w1 ⟨rfl, hg, hB, v, hv, hown⟩; obtain ⟨d0, d1⟩ := var_facts hv)
  go_ret
  exact ⟨_, rfl, by simpa [OwnE] using (own_low hown (Nat.le_succ _)), hg⟩
end Go.Proofs.YtbfdnfkflnajlaaGreat

/-! extent: within, proper, end; extree: proper, follows. -/
namespace Go.Proofs.YtbfdnfkflnajlaaGreat
open Go.RowKit
open Ext hiding One

def withinB (a n size : Int) : Bool := decide (0 ≤ a ∧ 0 ≤ n ∧ a ≤ size ∧ n ≤ size - a)
set_option maxHeartbeats 400000 in
theorem within_any (a n size : Int) (w : World) (h0 : 0 ≤ size) (h1 : size ≤ 1000000) :
    Calls Tryz.prog 208 #[.int .i64 a, .int .i64 n, .int .i64 size] w fun e w' => e = .returned (.bool (withinB a n size)) ∧ w = w' := by
  by_cases c1 : 0 ≤ a
  · by_cases c2 : 0 ≤ n
    · by_cases c3 : a ≤ size
      · by_cases c4 : n ≤ size - a
        · have e : withinB a n size = true := by unfold withinB; exact decide_eq_true ⟨c1, c2, c3, c4⟩
          rw [e]
          go_enter Tryz.func208, Tryz.ntmps208
          go_wp2
          go_ret
          exact ⟨rfl, rfl⟩
        · have e : withinB a n size = false := by unfold withinB; exact decide_eq_false (by omega)
          rw [e]
          go_enter Tryz.func208, Tryz.ntmps208
          go_wp2
          go_ret
          exact ⟨rfl, rfl⟩
      · have e : withinB a n size = false := by unfold withinB; exact decide_eq_false (by omega)
        rw [e]
        go_enter Tryz.func208, Tryz.ntmps208
        go_wp2
        go_ret
        exact ⟨rfl, rfl⟩
    · have e : withinB a n size = false := by unfold withinB; exact decide_eq_false (by omega)
      rw [e]
      go_enter Tryz.func208, Tryz.ntmps208
      go_wp2
      go_ret
      exact ⟨rfl, rfl⟩
  · have e : withinB a n size = false := by unfold withinB; exact decide_eq_false (by omega)
    rw [e]
    go_enter Tryz.func208, Tryz.ntmps208
    go_wp2
    go_ret
    exact ⟨rfl, rfl⟩

set_option maxHeartbeats 400000 in
theorem proper_any (x : Ext) (w : World) :
    Calls Tryz.prog 165 #[extV x] w fun e w' => e = .returned (.bool (decide x.One)) ∧ Grw w w' := by
  have e : decide x.One = (decide (1 ≤ x.len) && (withinB x.at_ x.len 65536 && withinB x.slot x.len 65536)) := by
    rw [Bool.eq_iff_iff]; simp only [withinB, Bool.and_eq_true, decide_eq_true_eq]; unfold Ext.One
    constructor <;> intro h <;> omega
  rw [e]
  unfold extV
  by_cases c1 : 1 ≤ x.len
  · cases c2 : withinB x.at_ x.len 65536
    · go_enter Tryz.func165, Tryz.ntmps165
      go_wp2_with (go_at_call 208; refine (within_any _ _ _ _ (by omega) (by omega)).mono ?_; rintro e w' ⟨rfl, rfl⟩)
      go_ret
      exact ⟨by simp, Grw.alloc _ _⟩
    · cases c3 : withinB x.slot x.len 65536
      all_goals
        go_enter Tryz.func165, Tryz.ntmps165
        go_wp2_with (go_at_call 208; refine (within_any _ _ _ _ (by omega) (by omega)).mono ?_; rintro e w' ⟨rfl, rfl⟩)
        go_ret
        exact ⟨by simp [c1], Grw.alloc _ _⟩
  · go_enter Tryz.func165, Tryz.ntmps165
    go_wp2_with (go_at_call 208; refine (within_any _ _ _ _ (by omega) (by omega)).mono ?_; rintro e w' ⟨rfl, rfl⟩)
    go_ret
    exact ⟨by rw [decide_eq_false (by omega)]; rfl, Grw.alloc _ _⟩

/-- numbers of an extent that are far from the greatest. -/
def Small (x : Ext) : Prop := -1000000 ≤ x.at_ ∧ x.at_ ≤ 1000000 ∧ -1000000 ≤ x.len ∧ x.len ≤ 1000000 ∧ -1000000 ≤ x.slot ∧ x.slot ≤ 1000000
theorem One.small {x : Ext} (h : x.One) : Small x := by unfold Ext.One at h; unfold Small; omega
set_option maxHeartbeats 400000 in
theorem end_any (x : Ext) (w : World) (h : Small x) :
    Calls Tryz.prog 166 #[extV x] w fun e w' => e = .returned (.int .i64 (x.at_ + x.len)) ∧ Grw w w' := by
  obtain ⟨a1, a2, a3, a4, a5, a6⟩ := h
  unfold extV
  go_enter Tryz.func166, Tryz.ntmps166
  go_wp2
  go_ret
  exact ⟨rfl, Grw.alloc _ _⟩
set_option maxHeartbeats 400000 in
theorem follows_any (x y : Ext) (w : World) (h : Small x) :
    Calls Tryz.prog 195 #[extV x, extV y] w fun e w' => e = .returned (.bool (x.fol y)) ∧ Grw w w' := by
  obtain ⟨a1, a2, a3, a4, a5, a6⟩ := h
  unfold extV Ext.fol
  by_cases c : x.at_ + x.len = y.at_
  all_goals
    go_enter Tryz.func195, Tryz.ntmps195
    go_wp2
    go_ret
    refine ⟨congrArg (fun b => Ending.returned (.bool b)) ?_, (Grw.alloc _ _).alc _⟩
    by_cases c2 : x.slot + x.len = y.slot <;> simp [c, c2]
set_option maxHeartbeats 400000 in
theorem xproper_any (a n : Int) (w : World) :
    Calls Tryz.prog 167 #[.int .i64 a, .int .i64 n] w fun e w' => e = .returned (.bool (withinB a n 65536)) ∧ w = w' := by
  by_cases c1 : 0 ≤ a
  · by_cases c2 : 0 ≤ n
    · by_cases c3 : a ≤ 65536
      · by_cases c4 : n ≤ 65536 - a
        · have e : withinB a n 65536 = true := by unfold withinB; exact decide_eq_true ⟨c1, c2, c3, c4⟩
          rw [e]
          go_enter Tryz.func167, Tryz.ntmps167
          go_wp2
          go_ret
          exact ⟨rfl, rfl⟩
        · have e : withinB a n 65536 = false := by unfold withinB; exact decide_eq_false (by omega)
          rw [e]
          go_enter Tryz.func167, Tryz.ntmps167
          go_wp2
          go_ret
          exact ⟨rfl, rfl⟩
      · have e : withinB a n 65536 = false := by unfold withinB; exact decide_eq_false (by omega)
        rw [e]
        go_enter Tryz.func167, Tryz.ntmps167
        go_wp2
        go_ret
        exact ⟨rfl, rfl⟩
    · have e : withinB a n 65536 = false := by unfold withinB; exact decide_eq_false (by omega)
      rw [e]
      go_enter Tryz.func167, Tryz.ntmps167
      go_wp2
      go_ret
      exact ⟨rfl, rfl⟩
  · have e : withinB a n 65536 = false := by unfold withinB; exact decide_eq_false (by omega)
    rw [e]
    go_enter Tryz.func167, Tryz.ntmps167
    go_wp2
    go_ret
    exact ⟨rfl, rfl⟩
end Go.Proofs.YtbfdnfkflnajlaaGreat
