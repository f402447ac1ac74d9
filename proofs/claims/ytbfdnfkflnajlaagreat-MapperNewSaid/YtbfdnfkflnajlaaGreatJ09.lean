/-
  Tree: Put. Tree: Find, Range, Blocks. Tree: All; slices.Collect of it. the extents of a volume.
-/
import Derived.Test.YtbfdnfkflnajlaaGreatJ07
import Derived.Test.YtbfdnfkflnajlaaGreatJ08
import Derived.Deep.Cut
import Derived.LoopTactic
import Derived.Deep.LoopGhost
import Derived.RangeFuncBox
import Derived.RangeFuncNested
import Derived.RangeFuncLeaves
import Derived.RangeFuncBound
import Derived.Shelf.Abstract
import Derived.WalkKit
import Derived.OwnWalkIn
import Derived.TacticsInMore
import Derived.LoopNIn
import Derived.LoopIn
import Derived.Maps.AppendAt
set_option linter.unusedVariables false
set_option linter.unusedSimpArgs false
/-! Tree: Put. -/
namespace Go.Proofs.YtbfdnfkflnajlaaGreat
open Go.RowKit
open Ext hiding One

theorem exts_one (W : World) (x : Ext) : Exts (W.alloc (.cells #[.int .i64 x.at_, .int .i64 x.len, .int .i64 x.slot] 105)) (.slice (some ⟨W.heap.size, 0, none⟩) 1 1) [x] := by
  refine ⟨by simp [flat, extC], .inr ⟨_, _, _, rfl, by simp, by decide, fun j u hu => ?_⟩⟩
  rw [Nat.zero_add, blk_cell (alloc_blk W _)]
  simpa [flat, extC] using hu
theorem VL_one {x : Ext} : VL [x] ↔ x.One := by
  constructor
  · exact fun h => h.1 x (by simp)
  · exact fun h => ⟨by simpa using h, by simp⟩
/-- a store into a block that is no node. -/
theorem set_in {w0 w : World} {b : Nat} {cs : Array Value} {t : TypeId} (hb : w.heap[b]? = some (.cells cs t (0, 0))) (ht : t ≠ 241) (hn : w0.heap.size ≤ b) (hg : Grw w0 w) (o : Nat) (v : Value) :
    (w.setCell ⟨b, o, none⟩ v).heap[b]? = some (.cells (cs.setIfInBounds o v) t (0, 0)) ∧ (∀ T p, IsT w p T → IsT (w.setCell ⟨b, o, none⟩ v) p T) ∧ Grw w0 (w.setCell ⟨b, o, none⟩ v) ∧ (∀ c, c ≠ b → (w.setCell ⟨b, o, none⟩ v).heap[c]? = w.heap[c]?) :=
  ⟨setCell_blk hb o v, fun _ _ h => IsT.set hb ht o v h, show Below _ _ _ from Below.setCell hg (p := ⟨b, o, none⟩) hn v, fun c hc => Below.heap_setCell _ _ _ _ hc⟩

theorem blk3 {w B : World} {o1 o2 o3 o4 : Obj} (h : Grw ((((w.alloc o1).alloc o2).alloc o3).alloc o4) B) : Grw w B ∧ B.heap[w.heap.size]? = some o1 ∧ B.heap[w.heap.size + 1]? = some o2 ∧ B.heap[w.heap.size + 2]? = some o3 := by
  have a1 := alloc_blk w o1
  have a2 := alloc_blk (w.alloc o1) o2
  have a3 := alloc_blk ((w.alloc o1).alloc o2) o3
  simp only [World.size_alloc] at a2 a3
  exact ⟨((((Grw.alloc w o1).alc o2).alc o3).alc o4).then h, h.blk (((((Grw.self _).alc o2).alc o3).alc o4).blk a1), h.blk ((((Grw.self _).alc o3).alc o4).blk a2), h.blk (((Grw.self _).alc o4).blk a3)⟩
/-- how it stands between the stages of 'Put': the extent so far, three trees. -/
structure PutSt (W0 : World) (x : Ext) (pa pm pb : Option Addr) (A M B : Tr) (w : World) : Prop where
  g : Grw W0 w
  x1 : w.heap[W0.heap.size + 1]? = some (.cells #[.int .i64 x.at_, .int .i64 x.len, .int .i64 x.slot] 105 (0, 0))
  x2 : w.heap[W0.heap.size + 2]? = some (.cells #[.pointer none] 168 (0, 0))
  a : IsT w pa A
  m : IsT w pm M
  b : IsT w pb B
theorem PutSt.grw {W0 : World} {x : Ext} {pa pm pb : Option Addr} {A M B : Tr} {w w' : World} (h : PutSt W0 x pa pm pb A M B w) (k : Grw w w') : PutSt W0 x pa pm pb A M B w' :=
  ⟨h.g.then k, k.blk h.x1, k.blk h.x2, h.a.grw k, h.m.grw k, h.b.grw k⟩

theorem PutSt.set1 {W0 : World} {x : Ext} {pa pm pb : Option Addr} {A M B : Tr} {w : World} (h : PutSt W0 x pa pm pb A M B w) (n : Int) : PutSt W0 ⟨x.at_, n, x.slot⟩ pa pm pb A M B (w.setCell ⟨W0.heap.size + 1, 1, none⟩ (.int .i64 n)) := by
  obtain ⟨s1, s2, s3, s4⟩ := set_in h.x1 (by decide) (by omega) h.g 1 (.int .i64 n)
  exact ⟨s3, by simpa using s1, (s4 _ (by omega)).trans h.x2, s2 _ _ h.a, s2 _ _ h.m, s2 _ _ h.b⟩
theorem PutSt.set3 {W0 : World} {x : Ext} {pa pm pb : Option Addr} {A M B : Tr} {w : World} (h : PutSt W0 x pa pm pb A M B w) (a n k : Int) : PutSt W0 ⟨a, n, k⟩ pa pm pb A M B (((w.setCell ⟨W0.heap.size + 1, 0, none⟩ (.int .i64 a)).setCell ⟨W0.heap.size + 1, 1, none⟩ (.int .i64 n)).setCell ⟨W0.heap.size + 1, 2, none⟩ (.int .i64 k)) := by
  obtain ⟨s1, s2, s3, s4⟩ := set_in h.x1 (by decide) (by omega) h.g 0 (.int .i64 a)
  obtain ⟨t1, t2, t3, t4⟩ := set_in s1 (by decide) (by omega) s3 1 (.int .i64 n)
  obtain ⟨u1, u2, u3, u4⟩ := set_in t1 (by decide) (by omega) t3 2 (.int .i64 k)
  exact ⟨u3, by simpa using u1, (u4 _ (by omega)).trans ((t4 _ (by omega)).trans ((s4 _ (by omega)).trans h.x2)), u2 _ _ (t2 _ _ (s2 _ _ h.a)), u2 _ _ (t2 _ _ (s2 _ _ h.m)), u2 _ _ (t2 _ _ (s2 _ _ h.b))⟩
/-- the extent's cells. -/
theorem PutSt.facts {W0 : World} {x : Ext} {pa pm pb : Option Addr} {A M B : Tr} {w : World} (h : PutSt W0 x pa pm pb A M B w) :
    ((∀ B, Grw w B → B.cell? ⟨W0.heap.size + 1, 0, none⟩ = some (.int .i64 x.at_)) ∧ (∀ B, Grw w B → B.cell? ⟨W0.heap.size + 1, 1, none⟩ = some (.int .i64 x.len)) ∧ (∀ B, Grw w B → B.cell? ⟨W0.heap.size + 1, 2, none⟩ = some (.int .i64 x.slot))) ∧ ∀ o B, Grw w B → B.frozen? ⟨W0.heap.size + 1, o, none⟩ = false :=
  ⟨ext_cells h.x1, fun o B hB => blk_free (hB.blk h.x1) o⟩

theorem mrgLT_small {A : Tr} {x : Ext} (hA : VL A.toL) (hx : x.One) : Small (mrgLT A x).2 ∧ (mrgLT A x).2.len ≤ 200000 := by
  have h1 := One.small hx
  have h2 := hx
  unfold Ext.One at h2
  cases A with
  | nil => exact ⟨h1, by simp only [mrgLT]; omega⟩
  | node l y r =>
    have hy : (Tr.node l y r).last.1.One := by
      have := Tr.last_toL (Tr.node l y r) (by simp)
      exact hA.1 _ (by rw [this]; simp)
    unfold Ext.One at hy
    simp only [mrgLT]
    generalize (Tr.node l y r).last.1 = z at hy ⊢
    split
    · unfold Small
      dsimp only
      omega
    · exact ⟨h1, by dsimp only; omega⟩

set_option maxRecDepth 100000 in
set_option maxHeartbeats 1000000 in
theorem put_some {t : Tr} {p : Option Addr} {x : Ext} {W0 : World} {A M B : Tr} (ht : IsT W0 p t) (hv : VL t.toL) (hx : x.One)
    (hA : (Tr.split x.at_ t).1 = A) (hM : (Tr.split (x.at_ + x.len) (Tr.split x.at_ t).2).1 = M) (hB : (Tr.split (x.at_ + x.len) (Tr.split x.at_ t).2).2 = B)
    (hf : fitL ((mrgLT A x).1.toL ++ (mrgRT (mrgLT A x).2 B).1 :: (mrgRT (mrgLT A x).2 B).2.toL)) :
    Calls Tryz.prog 155 #[treeV p, extV x] W0 (RetTLE W0.heap.size (Tr.join (mrgLT A x).1 (mrgRT (mrgLT A x).2 B).1 (mrgRT (mrgLT A x).2 B).2) M.toL 0 W0) := by
  have hvA : VL A.toL := by rw [← hA, (split_parts hv _).1]; exact parts_VL hv _ _
  have hv2 : VL (Tr.split x.at_ t).2.toL := by rw [(split_parts hv _).2]; exact parts_VL hv _ _
  have hvM : VL M.toL := by rw [← hM, (split_parts hv2 _).1]; exact parts_VL hv2 _ _
  have hvB : VL B.toL := by rw [← hB, (split_parts hv2 _).2]; exact parts_VL hv2 _ _
  have c1 := fun (q : Option Addr) (W : World) (hq : IsT W q t) => split_any x.at_ hq hv
  have c2 := fun (q : Option Addr) (W : World) (hq : IsT W q (Tr.split x.at_ t).2) => split_any (x.at_ + x.len) hq hv2
  rw [hA] at c1
  rw [hM, hB] at c2
  generalize (Tr.split x.at_ t).2 = A2 at *
  clear hA hM hB hv hv2
  obtain ⟨X, hX⟩ : ∃ X, mrgLT A x = X := ⟨_, rfl⟩
  obtain ⟨Y, hY⟩ : ∃ Y, mrgRT X.2 B = Y := ⟨_, rfl⟩
  rw [hX, hY] at hf ⊢
  replace hX : Aside (mrgLT A x = X) := hX
  replace hY : Aside (mrgRT X.2 B = Y) := hY
  have c0 := valid_any _ (exts_one ((((W0.alloc (.cells #[.pointer p] 168)).alloc (.cells #[.int .i64 x.at_, .int .i64 x.len, .int .i64 x.slot] 105)).alloc (.cells #[.pointer none] 168))) x)
  rw [decide_eq_true (VL_one.2 hx)] at c0
  simp only [World.size_alloc] at c0
  obtain ⟨sx1, sx2, sx3, sx4, sx5, sx6⟩ := One.small hx
  have hx' : Aside x.One := hx
  clear hx
  unfold extV
  go_enter Tryz.func155, Tryz.ntmps155
  go_upto_if 39 with (go_at_call 120; refine c0.mono ?_; clear c0; rintro e w1 ⟨rfl, g0⟩; obtain ⟨g1, b0, b1, b2⟩ := blk3 g0; have v0 := (var_facts b0).1; obtain ⟨x0, x1, x2⟩ := ext_cells b1; clear g0; have gs := Grw.self w1; replace ht := ht.grw g1; replace c1 := c1 _ _ ht)
  refine c1.mono ?_
  clear c1
  rintro e w2 ⟨pa, p2, rfl, ta, t2, g2⟩
  replace c2 := c2 _ _ t2
  replace x0 : ∀ B, Grw w2 B → B.cell? _ = _ := fun B hB => x0 B (g2.then hB)
  replace x1 : ∀ B, Grw w2 B → B.cell? _ = _ := fun B hB => x1 B (g2.then hB)
  replace x2 : ∀ B, Grw w2 B → B.cell? _ = _ := fun B hB => x2 B (g2.then hB)
  have gs2 := Grw.self w2
  go_upto_if 39 with (go_at_call 168; refine c2.mono ?_; clear c2; rintro e w3 ⟨pm, pb, rfl, tm, tb, g3⟩)
  have hS : PutSt W0 x pa pm pb A M B w3 := ⟨g1.then (g2.then g3), (g2.then g3).blk b1, (g2.then g3).blk b2, ta.grw g3, tm, tb⟩
  clear x0 x1 x2 gs gs2 ta t2 tm tb b0 b1 b2 v0 ht
  go_cut [7] from 15 (fun s7 wx => ∃ qa, s7 = .pointer qa ∧ PutSt W0 X.2 qa pm pb X.1 M B wx)
  case first =>
    cases A with
    | nil =>
      obtain rfl := hX.out
      obtain rfl : pa = none := hS.a
      go_wp2
      go_meet
      case rel => exact ⟨none, rfl, hS⟩
    | node l y0 r =>
      obtain ⟨y, hy⟩ : ∃ y, (Tr.node l y0 r).last.1 = y := ⟨_, rfl⟩
      have hyo : y.One := by
        have := Tr.last_toL (Tr.node l y0 r) (by simp)
        rw [hy] at this
        exact hvA.1 y (by rw [this]; simp)
      have c3 := last_any (by simp) hS.a (VL.fit hvA)
      rw [hy] at c3
      obtain ⟨b, lp, rp, rfl, -, -, -⟩ := hS.a
      have c4 := fun W => follows_any y x W (One.small hyo)
      have hs3 := hS
      obtain ⟨ys1, ys2, ys3, ys4, ys5, ys6⟩ := One.small hyo
      have e4 : IntKind.i64.wrap (y.len + x.len) = y.len + x.len := wrapI (by omega) (by omega)
      by_cases hfo : y.fol x = true
      · rw [hfo] at c4
        have hX2 : X = ((Tr.node l y0 r).last.2, ⟨y.at_, y.len + x.len, y.slot⟩) := by rw [← hX.out]; simp only [mrgLT]; rw [hy, if_pos hfo]
        subst hX2
        go_wp2_with (first | (go_at_call 194; refine c3.mono ?_; clear c3; rintro e w4 ⟨q, rfl, tq, g4⟩; unfold extV; have hs4 := hs3.grw g4; obtain ⟨⟨x0, x1, x2⟩, xf⟩ := hs4.facts) | (go_at_call 195; refine (c4 _).mono ?_; clear c4; rintro e w5 ⟨rfl, g5⟩; have g6 := (Grw.alloc w4 _).then g5; obtain ⟨k0, k1, k2⟩ := ext_cells (alloc_blk w4 (.cells #[.int .i64 y.at_, .int .i64 y.len, .int .i64 y.slot] 105)); replace k0 := k0 w5 g5; replace k1 := k1 w5 g5; replace k2 := k2 w5 g5; have f0 := xf 0 w5 g6; have f1 := xf 1 w5 g6; have f2 := xf 2 w5 g6; replace x0 := x0 w5 g6; replace x1 := x1 w5 g6; replace x2 := x2 w5 g6))
        go_meet
        case rel => exact ⟨q, rfl, ({ hs4.grw g6 with a := tq.grw g6 } : PutSt W0 x q pm pb (Tr.node l y0 r).last.2 M B w5).set3 _ _ _⟩
      · replace hfo : y.fol x = false := by simpa using hfo
        rw [hfo] at c4
        have hX2 : X = (Tr.node l y0 r, x) := by rw [← hX.out]; simp only [mrgLT]; rw [hy, if_neg (by simp [hfo])]
        subst hX2
        go_wp2_with (first | (go_at_call 194; refine c3.mono ?_; clear c3; rintro e w4 ⟨q, rfl, tq, g4⟩; unfold extV; have hs4 := hs3.grw g4; obtain ⟨⟨x0, x1, x2⟩, xf⟩ := hs4.facts) | (go_at_call 195; refine (c4 _).mono ?_; clear c4; rintro e w5 ⟨rfl, g5⟩; have g6 := (Grw.alloc w4 _).then g5))
        go_meet
        case rel => exact ⟨_, rfl, hs4.grw g6⟩
  case rest =>
    obtain ⟨qa, rfl, hS2⟩ := hcut
    obtain ⟨⟨zx1, zx2, zx3, zx4, zx5, zx6⟩, zx7⟩ : Small X.2 ∧ X.2.len ≤ 200000 := by rw [← hX.out]; exact mrgLT_small hvA hx'.out
    have hsx : Small X.2 := ⟨zx1, zx2, zx3, zx4, zx5, zx6⟩
    clear hX hvA hS sx1 sx2 sx3 sx4 sx5 sx6
    obtain ⟨A', x'⟩ := X
    dsimp only at *
    go_upto_if 60 with fail
    go_cut [10] from 15 (fun s10 wx => ∃ qb, s10 = .pointer qb ∧ PutSt W0 Y.1 qa pm qb A' M Y.2 wx)
    case first =>
      cases B with
      | nil =>
        obtain rfl := hY.out
        obtain rfl : pb = none := hS2.b
        go_wp2
        go_meet
        case rel => exact ⟨none, rfl, hS2⟩
      | node l y0 r =>
        obtain ⟨y, hy⟩ : ∃ y, (Tr.node l y0 r).first.1 = y := ⟨_, rfl⟩
        have hyo : y.One := by
          have := Tr.first_toL (Tr.node l y0 r) (by simp)
          rw [hy] at this
          exact hvB.1 y (by rw [this]; simp)
        have c3 := first_any (by simp) hS2.b (VL.fit hvB)
        rw [hy] at c3
        obtain ⟨b, lp, rp, rfl, -, -, -⟩ := hS2.b
        have c4 := fun W => follows_any x' y W hsx
        have hs3 := hS2
        obtain ⟨ys1, ys2, ys3, ys4, ys5, ys6⟩ := One.small hyo
        have e4 : IntKind.i64.wrap (x'.len + y.len) = x'.len + y.len := wrapI (by omega) (by omega)
        by_cases hfo : x'.fol y = true
        · rw [hfo] at c4
          have hX2 : Y = (⟨x'.at_, x'.len + y.len, x'.slot⟩, (Tr.node l y0 r).first.2) := by rw [← hY.out]; simp only [mrgRT]; rw [hy, if_pos hfo]
          subst hX2
          go_wp2_with (first | (go_at_call 196; refine c3.mono ?_; clear c3; rintro e w4 ⟨q, rfl, tq, g4⟩; unfold extV; have hs4 := hs3.grw g4; obtain ⟨⟨x0, x1, x2⟩, xf⟩ := hs4.facts) | (go_at_call 195; refine (c4 _).mono ?_; clear c4; rintro e w5 ⟨rfl, g5⟩; have g6 := (Grw.alloc w4 _).then g5; obtain ⟨k0, k1, k2⟩ := ext_cells (alloc_blk w4 (.cells #[.int .i64 y.at_, .int .i64 y.len, .int .i64 y.slot] 105)); replace k0 := k0 w5 g5; replace k1 := k1 w5 g5; replace k2 := k2 w5 g5; have f0 := xf 0 w5 g6; have f1 := xf 1 w5 g6; have f2 := xf 2 w5 g6; replace x0 := x0 w5 g6; replace x1 := x1 w5 g6; replace x2 := x2 w5 g6))
          go_meet
          case rel => exact ⟨q, rfl, ({ hs4.grw g6 with b := tq.grw g6 } : PutSt W0 x' qa pm q A' M (Tr.node l y0 r).first.2 w5).set1 _⟩
        · replace hfo : x'.fol y = false := by simpa using hfo
          rw [hfo] at c4
          have hX2 : Y = (x', Tr.node l y0 r) := by rw [← hY.out]; simp only [mrgRT]; rw [hy, if_neg (by simp [hfo])]
          subst hX2
          go_wp2_with (first | (go_at_call 196; refine c3.mono ?_; clear c3; rintro e w4 ⟨q, rfl, tq, g4⟩; unfold extV; have hs4 := hs3.grw g4; obtain ⟨⟨x0, x1, x2⟩, xf⟩ := hs4.facts) | (go_at_call 195; refine (c4 _).mono ?_; clear c4; rintro e w5 ⟨rfl, g5⟩; have g6 := (Grw.alloc w4 _).then g5))
          go_meet
          case rel => exact ⟨_, rfl, hs4.grw g6⟩
    case rest =>
      obtain ⟨qb, rfl, hS3⟩ := hcut
      clear hY hvB hS2 hsx zx1 zx2 zx3 zx4 zx5 zx6 zx7
      obtain ⟨x'', B'⟩ := Y
      dsimp only at *
      obtain ⟨⟨x0, x1, x2⟩, xf⟩ := hS3.facts
      have gs := Grw.self wc
      have c5 := join_any (x := x'') hS3.a hS3.b (Grw.self _) (Grw.self _) hf
      go_wp2_with (go_at_call 197; refine c5.mono ?_; clear c5; rintro e w5 ⟨q5, rfl, t5, g5⟩)
      refine (list_any (hS3.m.grw g5) (VL.fit hvM)).mono ?_
      rintro e w6 ⟨v, rfl, hown, g6⟩
      have hS4 := hS3.grw (g5.then g6)
      have hb4 : w6.heap[W0.heap.size + 1 + 1]? = some (.cells #[.pointer none] 168 (0, 0)) := hS4.x2
      obtain ⟨v0, f0⟩ := var_facts hb4
      have t6 := t5.grw g6
      go_wp2
      obtain ⟨k1, k2⟩ := set_one (w0 := W0) hb4 (by omega) hS4.g (.pointer q5)
      have q0 := blk_cell k1 0
      simp only [List.getElem?_toArray, List.getElem?_cons_zero] at q0
      have ho2 := ownsRow_setCell_below hown (a := ⟨W0.heap.size + 1 + 1, 0, none⟩) (by have := g5.size; have := (Array.getElem?_eq_some_iff.1 hS3.x2).1; dsimp only; omega) (.pointer q5)
      have t7 := IsT.set hb4 (by decide) 0 (.pointer q5) t6
      refine bodyPost_ret (v := .tuple #[treeV q5, v, .int .i64 0]) (by simp [results, Tryz.results155, go_sem, q0]) rfl ⟨_, _, rfl, t7, own_low ho2 (by have := (hS3.g.then g5).size; omega), k2⟩
/-- what 'Put' leaves. -/
theorem put_any {t : Tr} {p : Option Addr} {x : Ext} {W0 : World} (ht : IsT W0 p t) (hv : NF t.toL) (hx : x.One) :
    Calls Tryz.prog 155 #[treeV p, extV x] W0 (RetTLE W0.heap.size (putT t x) (partsL t.toL x.at_ (x.at_ + x.len)) 0 W0) := by
  have hx' := hx
  unfold Ext.One at hx'
  rw [← (split2_parts hv.vl (at_ := x.at_) (n := x.len) (by omega) (by omega) (by omega)).1]
  refine put_some ht hv.vl hx rfl rfl rfl ?_
  have := putT_toL hv hx
  unfold putT at this
  rw [Tr.join_toL] at this
  rw [this]
  exact VL.fit (putL_NF hv hx).vl
set_option maxRecDepth 100000 in
set_option maxHeartbeats 1000000 in
theorem put_bad {p : Option Addr} {x : Ext} (W0 : World) (hx : ¬ x.One) :
    Calls Tryz.prog 155 #[treeV p, extV x] W0 (RetTLE W0.heap.size .nil [] 1 W0) := by
  have c0 := valid_any _ (exts_one ((((W0.alloc (.cells #[.pointer p] 168)).alloc (.cells #[.int .i64 x.at_, .int .i64 x.len, .int .i64 x.slot] 105)).alloc (.cells #[.pointer none] 168))) x)
  rw [decide_eq_false (fun h => hx (VL_one.1 h))] at c0
  simp only [World.size_alloc] at c0
  unfold extV
  go_enter Tryz.func155, Tryz.ntmps155
  go_wp2_with (go_at_call 120; refine c0.mono ?_; clear c0; rintro e w1 ⟨rfl, g0⟩; obtain ⟨g1, b0, b1, b2⟩ := blk3 g0; have hb4 : w1.heap[W0.heap.size + 1 + 1]? = some (.cells #[.pointer none] 168 (0, 0)) := b2; obtain ⟨v0, f0⟩ := var_facts hb4)
  obtain ⟨k1, k2⟩ := set_one (w0 := W0) hb4 (by omega) g1 (.pointer none)
  have q0 := blk_cell k1 0
  simp only [List.getElem?_toArray, List.getElem?_cons_zero] at q0
  refine bodyPost_ret (v := .tuple #[treeV none, .slice none 0 0, .int .i64 1]) (by simp [results, Tryz.results155, go_sem, q0]) rfl ⟨_, _, rfl, rfl, OwnE.nil _ _, k2⟩
end Go.Proofs.YtbfdnfkflnajlaaGreat

/-! Tree: Find, Range, Blocks. -/
namespace Go.Proofs.YtbfdnfkflnajlaaGreat
open Go.RowKit
open Ext hiding One

/-- 'Find' in a tree. -/
def findT (k : Int) : Tr → Option Int
  | .nil => none
  | .node l x r => if k < x.at_ then findT k l else if k ≥ x.at_ + x.len then findT k r else some (x.slot + k - x.at_)
theorem findT_fnd {k : Int} : ∀ {t : Tr}, VL t.toL → findT k t = fnd t.toL k
  | .nil, _ => rfl
  | .node l x r, h => by
    obtain ⟨hl, hr, ox, s1, s2⟩ := VL_mid h
    have e1 := findT_fnd hl (k := k)
    have e2 := findT_fnd hr (k := k)
    unfold Ext.One at ox
    have hx : fnd (x :: r.toL) k = if x.at_ ≤ k ∧ k < x.at_ + x.len then some (x.slot + k - x.at_) else fnd r.toL k := by simp [fnd]
    unfold findT
    simp only [Tr.toL]
    rw [fnd_append, hx, e1, e2]
    split
    · rename_i c
      rw [if_neg (by omega), fnd_none (A := r.toL) (fun y hy => by have := s2 y hy; unfold Ext.sep at this; omega)]
      simp
    · rename_i c
      rw [fnd_none (A := l.toL) (fun y hy => by have := s1 y hy; unfold Ext.sep at this; omega)]
      split
      · rw [if_neg (by omega)]; simp
      · rw [if_pos (by omega)]; simp
def findV : Option Int → Value
  | none => .tuple #[.int .i64 0, .bool false]
  | some s => .tuple #[.int .i64 s, .bool true]

set_option maxRecDepth 100000 in
set_option maxHeartbeats 1000000 in
theorem find_tree {t : Tr} {p : Option Addr} {k : Int} {W0 : World} (ht : IsT W0 p t) (hv : VL t.toL) (hk : -1000000 ≤ k ∧ k ≤ 1000000) :
    Calls Tryz.prog 118 #[treeV p, .int .i64 k] W0 fun e w' => e = .returned (findV (findT k t)) ∧ Grw W0 w' := by
  obtain ⟨hk1, hk2⟩ := hk
  obtain ⟨F, hF⟩ : ∃ F, findT k t = F := ⟨_, rfl⟩
  rw [hF]
  replace hF : Aside (findT k t = F) := hF
  go_enter Tryz.func118, Tryz.ntmps118
  go_wp2
  go_loopg [6] t.nodes (fun g s6 wx => ∃ (q : Option Addr) (T : Tr), s6 = .pointer q ∧ IsT wx q T ∧ VL T.toL ∧ T.nodes = g ∧ Aside (findT k T = F) ∧ Grw W0 wx)
  case atStart => exact ⟨p, t, rfl, ht.grw (Grw.alloc _ _), hv, rfl, hF, Grw.alloc _ _⟩
  case round =>
    obtain ⟨q, T, rfl, hT, hvT, rfl, hFT, hg⟩ := hrel
    cases T with
    | nil =>
      obtain rfl : q = none := hT
      obtain rfl := hFT.out
      go_wp2
      go_ret2
      exact ⟨rfl, hg⟩
    | node l x r =>
      obtain ⟨b, lp, rp, rfl, hb, hl, hr⟩ := hT
      obtain ⟨hvl, hvr, ox, -, -⟩ := VL_mid hvT
      obtain ⟨sx1, sx2, sx3, sx4, sx5, sx6⟩ := One.small ox
      obtain ⟨n0, n1, n2, n3, n4⟩ := node_cells hb
      have gs := Grw.self wr
      by_cases c1 : k < x.at_
      · go_wp2
        go_roundg l.nodes
        case measure => simp [Tr.nodes]; omega
        case rel => exact ⟨_, l, rfl, hl, hvl, rfl, by have := hFT.out; unfold findT at this; rwa [if_pos c1] at this, hg⟩
      · go_wp2
        have e1 : IntKind.i64.wrap (x.at_ + x.len) = x.at_ + x.len := wrapI (by omega) (by omega)
        have e2 : IntKind.i64.wrap (x.slot + k) = x.slot + k := wrapI (by omega) (by omega)
        have e3 : IntKind.i64.wrap (x.slot + k - x.at_) = x.slot + k - x.at_ := wrapI (by omega) (by omega)
        refine gw_region [(0, true), (1, true), (2, true), (3, true), (4, true), (5, true), (6, true), (7, true), (8, true), (9, true), (10, true), (11, true), (12, true), (13, true)] (by kernel_rfl) (by kernel_rfl) (fun c a d v w1 h => by cases d <;> exact h) ?_
        intro A hA
        iterate 14 (apply gw_q hA rfl rfl; intro pp; go_simp; rfl; go_simp)
        refine pi_nil ?_
        go_wp2
        · have c2 : x.at_ + x.len ≤ k := by assumption
          go_roundg r.nodes
          case measure => simp [Tr.nodes]; omega
          case rel => exact ⟨_, r, rfl, hr.grw (Grw.drw _), hvr, rfl, by have := hFT.out; unfold findT at this; rwa [if_neg (by omega), if_pos c2] at this, hg.then (Grw.drw _)⟩
        · have c2 : k < x.at_ + x.len := by assumption
          replace n0 : ∀ B, Grw wr.drew B → B.cell? _ = _ := fun B hB => n0 B ((Grw.drw _).then hB)
          replace n2 : ∀ B, Grw wr.drew B → B.cell? _ = _ := fun B hB => n2 B ((Grw.drw _).then hB)
          refine gw_region [(0, true), (1, true), (2, true), (3, true), (4, true), (5, true), (6, true), (7, true), (8, true), (9, true), (10, true), (11, true), (12, true), (13, true), (14, true)] (by kernel_rfl) (by kernel_rfl) (fun c a d v w1 h => by cases d <;> exact h) ?_
          intro A hA
          iterate 15 (apply gw_q hA rfl rfl; intro pp; go_simp; rfl; go_simp)
          refine pi_nil ?_
          go_wp2
          go_ret2
          refine ⟨?_, (hg.then (Grw.drw _)).then (Grw.drw _)⟩
          have := hFT.out
          unfold findT at this
          rw [if_neg (by omega), if_neg (by omega)] at this
          rw [← this]
          rfl
/-- what 'Find' answers. -/
theorem find_any {t : Tr} {p : Option Addr} {k : Int} {W0 : World} (ht : IsT W0 p t) (hv : VL t.toL) (hk : -1000000 ≤ k ∧ k ≤ 1000000) :
    Calls Tryz.prog 118 #[treeV p, .int .i64 k] W0 fun e w' => e = .returned (findV (fnd t.toL k)) ∧ Grw W0 w' := by
  rw [← findT_fnd hv]
  exact find_tree ht hv hk

set_option maxRecDepth 100000 in
set_option maxHeartbeats 1000000 in
theorem blocks_any {t : Tr} {p : Option Addr} {W0 : World} (ht : IsT W0 p t) :
    Calls Tryz.prog 89 #[treeV p] W0 fun e w' => e = .returned (.int .i64 (sumL t.toL)) ∧ Grw W0 w' := by
  rw [← blocks_toL]
  have hg := Grw.alloc W0 (.cells #[.pointer p] 168)
  go_enter Tryz.func89, Tryz.ntmps89
  go_wp2_with (go_at_call 150; refine (mapped_any ht hg).mono ?_; rintro e w1 ⟨rfl, rfl⟩)
  go_ret
  exact ⟨rfl, hg⟩
set_option maxRecDepth 100000 in
set_option maxHeartbeats 1000000 in
theorem range_any {t : Tr} {p : Option Addr} {a n : Int} {W0 : World} (ht : IsT W0 p t) (hv : NF t.toL) (h : withinB a n 65536 = true) :
    Calls Tryz.prog 92 #[treeV p, .int .i64 a, .int .i64 n] W0 (RetE W0.heap.size (partsL t.toL a (a + n)) W0) := by
  have hg := Grw.alloc W0 (.cells #[.pointer p] 168)
  have c1 := cut_any (ht.grw hg) hv h
  go_enter Tryz.func92, Tryz.ntmps92
  go_wp2_with (go_at_call 122; refine c1.mono ?_; clear c1; rintro e w1 ⟨q, v, rfl, t1, hown, g1⟩)
  go_ret
  have hk := Grw.alloc w1 (.cells #[.pointer q] 168)
  exact ⟨_, rfl, (own_low (hown.kept hk) hg.size), (hg.then g1).then hk⟩
end Go.Proofs.YtbfdnfkflnajlaaGreat

/-! Tree: All; slices.Collect of it. -/
namespace Go.Proofs.YtbfdnfkflnajlaaGreat
open Go.RowKit Go.Shelf
open Ext hiding One
attribute [local go_sem] Oper.semAt_some

theorem round_any {F : Fence} (hd : F.depth = none) {m m' : Nat} {P : Program} {l : Nat} {f : FuncId} {tmps : Array Value} {assign body : Code} {w : World} {R : Ending → World → Prop}
    (h : RoundIn F m P l f tmps assign body w R) : RoundIn F m' P l f tmps assign body w R := ⟨h.1, fun c cs _ => h.2 c cs (fun d h => by rw [hd] at h; cases h)⟩
theorem yield_any {F : Fence} (hd : F.depth = none) {m : Nat} (m' : Nat) {P : Program} {l : Nat} {args : Array Value} {W : World} {R : Ending → World → Prop} (h : YieldAt F m P l args W R) : YieldAt F m' P l args W R := by
  obtain ⟨fn, tmps, assign, body, hy, hR⟩ := h
  exact ⟨fn, tmps, assign, body, hy, round_any hd hR⟩

set_option maxRecDepth 100000 in
set_option maxHeartbeats 2000000 in
/-- the walk of a tree at the yield of a loop. -/
theorem walkY_in (F : Fence) (hd : F.depth = none) (hf : F.fn 193) (hro : F.round = none) (l N : Nat) {w0 : World} (J Jx : List Ext → World → Prop)
    (hY : ∀ m pre x W, J pre W → pre.length < N → YieldAt F m Tryz.prog l #[extV x] W fun e W' =>
      (e = .returned (.bool true) ∧ J (pre ++ [x]) W' ∧ Below w0.heap.size W W') ∨ (e = .returned (.bool false) ∧ Jx (pre ++ [x]) W')) (T : Tr) :
    ∀ (n : Nat) (p : Option Addr) (pre : List Ext) (W : World), IsT w0 p T → Grw w0 W → J pre W → pre.length + T.toL.length ≤ N →
      CallsIn F n Tryz.prog 193 #[.pointer p, .func (.yield l) #[] #[]] W fun e W' =>
        (e = .returned (.bool true) ∧ J (pre ++ T.toL) W' ∧ Below w0.heap.size W W') ∨ (e = .returned (.bool false) ∧ ∃ q, q <+: T.toL ∧ Jx (pre ++ q) W') := by
  induction T with
  | nil =>
    intro n p pre W ht hg hJ _
    obtain rfl : p = none := ht
    refine callsIn_of_wp Tryz.func193 rfl hf ?_ hro
    simp only [Tryz.ntmps193, List.size_toArray, List.length_cons, List.length_nil, Nat.reduceAdd, Nat.reduceSub, Array.replicate_succ, Array.replicate_zero, List.push_toArray, List.append_toArray, List.nil_append, List.cons_append]
    gi_wp2
    all_goals (try (exfalso; rename_i hh _ _ _ _ _ _ _; simp [undef] at hh; done))
    all_goals (try (exfalso; rename_i hh _ _ _ _; simp [undef] at hh; done))
    refine ⟨fun _ h => (by cases h), ?_⟩
    gi_wp2
    go_ret
    exact .inl ⟨rfl, by simpa [Tr.toL] using hJ, Below.refl _ _⟩
  | node tl x tr ihl ihr =>
    intro n p pre W ht hg hJ hN
    obtain ⟨b, pl, pr, rfl, hb, hl, hr⟩ := ht
    obtain ⟨n0, n1, n2, n3, n4⟩ := node_cells hb
    have hdd : ∀ k : Nat, (F.depth.isSome = true → 1 ≤ k) := fun k h => by rw [hd] at h; cases h
    simp only [Tr.toL, List.length_append, List.length_cons] at hN
    have hy2 : ∀ W1, J (pre ++ tl.toL) W1 → Below w0.heap.size W W1 → YieldAt F (n - 1) Tryz.prog l #[extV x] W1 fun e W2 =>
        (e = .returned (.bool true) ∧ J (pre ++ tl.toL ++ [x]) W2 ∧ Below w0.heap.size W W2 ∧ Grw w0 W2) ∨ (e = .returned (.bool false) ∧ Jx (pre ++ tl.toL ++ [x]) W2) := fun W1 hJ1 hb1 =>
      YieldAt.mono (hY (n - 1) _ x W1 hJ1 (by simp; omega)) fun e W2 h => h.elim
        (fun ⟨he, hj, hb2⟩ => .inl ⟨he, hj, hb1.trans hb2, Below.trans hg (hb1.trans hb2)⟩) .inr
    have ih1 := (ihl (n - 1) pl pre W hl hg hJ (by omega)).mono (R' := fun e W1 =>
        (e = .returned (.bool true) ∧ Grw w0 W1 ∧ YieldAt F (n - 1) Tryz.prog l #[extV x] W1 fun e W2 =>
          (e = .returned (.bool true) ∧ J (pre ++ tl.toL ++ [x]) W2 ∧ Below w0.heap.size W W2 ∧ Grw w0 W2) ∨ (e = .returned (.bool false) ∧ Jx (pre ++ tl.toL ++ [x]) W2)) ∨
        (e = .returned (.bool false) ∧ ∃ q, q <+: tl.toL ∧ Jx (pre ++ q) W1))
      (fun e W1 h => h.elim (fun ⟨he, hj, hb1⟩ => .inl ⟨he, Below.trans hg hb1, hy2 W1 hj hb1⟩) .inr)
    clear hy2 ihl
    refine callsIn_of_wp Tryz.func193 rfl hf ?_ hro
    simp only [Tryz.ntmps193, List.size_toArray, List.length_cons, List.length_nil, Nat.reduceAdd, Nat.reduceSub, Array.replicate_succ, Array.replicate_zero, List.push_toArray, List.append_toArray, List.nil_append, List.cons_append]
    gi_wp2_with (first
      | ((try refine ⟨hdd _, ?_⟩); gi_at_call 193; refine ih1.mono ?_; clear ih1; rintro e W1 (⟨rfl, hg1, fn, tmps, assign, body, hy, hR⟩ | ⟨rfl, q, hq, hx1⟩))
      | ((try refine ⟨hdd _, ?_⟩); refine hR.mono ?_; clear hR; rintro e W2 (⟨rfl, hJ2, hb2, hg2⟩ | ⟨rfl, hx2⟩))
      | ((try refine ⟨hdd _, ?_⟩); gi_at_call 193; refine (ihr (n - 1) pr _ _ hr hg2 hJ2 (by simp; omega)).mono ?_; rintro e W3 (⟨rfl, hJ3, hb3⟩ | ⟨rfl, q, hq, hx3⟩)))
    · go_ret
      exact .inl ⟨rfl, by simpa [Tr.toL, List.append_assoc] using hJ3, hb2.trans hb3⟩
    · go_ret
      obtain ⟨r, hr'⟩ := hq
      exact .inr ⟨rfl, tl.toL ++ x :: q, ⟨r, by simp [Tr.toL, ← hr']⟩, by simpa [List.append_assoc] using hx3⟩
    · go_ret
      exact .inr ⟨rfl, tl.toL ++ [x], ⟨tr.toL, by simp [Tr.toL]⟩, by simpa [List.append_assoc] using hx2⟩
    · refine ⟨fun _ h => (by cases h), ?_⟩
      gi_wp2
      go_ret
      exact .inr ⟨rfl, q, hq.trans (by simp [Tr.toL]), hx1⟩

set_option maxHeartbeats 1000000 in
theorem all1_in (F : Fence) (hd : F.depth = none) (n : Nat) (h5 : F.fn 192) (h6 : F.fn 193) (hro : F.round = none) (l Bt : Nat) (p0 : Option Addr) (T : Tr) (w0 : World) (J Jx : List Ext → World → Prop)
    (hY : ∀ pre x W, J pre W → pre.length < T.toL.length → YieldAt F (n - 1) Tryz.prog l #[extV x] W fun e W' =>
      (e = .returned (.bool true) ∧ J (pre ++ [x]) W' ∧ Below w0.heap.size W W') ∨ (e = .returned (.bool false) ∧ Jx (pre ++ [x]) W'))
    (W : World) (hBt : W.cell? ⟨Bt, 0, none⟩ = some (.pointer p0)) (hT : IsT w0 p0 T) (hg : Grw w0 W) (h0 : J [] W) :
    CallsIn F n Tryz.prog 192 #[.func (.yield l) #[] #[], .pointer (some ⟨Bt, 0, none⟩)] W fun e W' => (∃ v, e = .returned v) ∧
      ((∃ ys, ys = T.toL ∧ J ys W') ∨ (∃ pre, pre <+: T.toL ∧ Jx pre W')) := by
  have hdd : ∀ k : Nat, (F.depth.isSome = true → 1 ≤ k) := fun k h => by rw [hd] at h; cases h
  have hp := walkY_in F hd h6 hro l T.toL.length (w0 := w0) J Jx (fun m pre x W hj hl => yield_any hd m (hY pre x W hj hl)) T (n - 1) p0 [] W hT hg h0 (by simp)
  refine callsIn_of_wp Tryz.func192 rfl h5 ?_ hro
  simp only [Tryz.ntmps192, List.size_toArray, List.length_cons, List.length_nil, Nat.reduceAdd, Nat.reduceSub, Array.replicate_succ, Array.replicate_zero, List.push_toArray, List.append_toArray, List.nil_append, List.cons_append]
  gi_wp2_with ((try refine ⟨hdd _, ?_⟩); gi_at_call 193; refine hp.mono ?_; clear hp; rintro e W1 (⟨rfl, hJ1, _⟩ | ⟨rfl, q, hq, hx⟩))
  · go_end0
    exact ⟨⟨_, rfl⟩, .inl ⟨_, rfl, by simpa using hJ1⟩⟩
  · go_end0
    exact ⟨⟨_, rfl⟩, .inr ⟨q, hq, by simpa using hx⟩⟩
theorem all_stops (F : Fence) (hd : F.depth = none) (n : Nat) (h5 : F.fn 192) (h6 : F.fn 193) (hro : F.round = none) (Bt : Nat) (p0 : Option Addr) (T : Tr) (w0 w : World) (hBt : Bt < w.heap.size)
    (hc : w.cell? ⟨Bt, 0, none⟩ = some (.pointer p0)) (hT : IsT w0 p0 T) (hg : Grw w0 w) :
    SeqStopsK F n Tryz.prog 192 #[.pointer (some ⟨Bt, 0, none⟩)] (fun x : Ext => #[extV x]) (Below w0.heap.size) (fun ys => ys = T.toL) (fun pre => pre <+: T.toL) T.toL.length w := fun l J Jx W hW _ _ hY h0 =>
  all1_in F hd n h5 h6 hro l Bt p0 T w0 J Jx hY W ((hW.cell (p := ⟨Bt, 0, none⟩) hBt).trans hc) hT (Below.trans hg (hW.mono hg.size)) h0

set_option maxRecDepth 100000 in
set_option maxHeartbeats 2000000 in
/-- the extents of a tree, appended to nil. -/
theorem appendSeq_in (F : Fence) (hd : F.depth = none) (n : Nat) (hn : 3 ≤ n) (h4 : F.fn 191) (h5 : F.fn 192) (h6 : F.fn 193) (hro : F.round = none) (Bt : Nat) (p0 : Option Addr) (T : Tr) (w : World) (hBt : Bt < w.heap.size)
    (hc : w.cell? ⟨Bt, 0, none⟩ = some (.pointer p0)) (hT : IsT w p0 T) (hlen : T.toL.length ≤ 1000000) :
    CallsIn F n Tryz.prog 191 #[.slice none 0 0, .func (.func 192) #[] #[.pointer (some ⟨Bt, 0, none⟩)]] w fun e W' => ∃ v, e = .returned v ∧ OwnE W' w.heap.size v T.toL ∧ Below w.heap.size w W' := by
  have h1 : 1 ≤ n := by omega
  obtain ⟨i0, hi, hz0, hz1, hz2⟩ := info_parts infoE
  refine callsIn_of_wp_marks Tryz.func191 rfl h4 ?_ hro
  simp only [Tryz.ntmps191, List.size_toArray, List.length_cons, List.length_nil, Nat.reduceAdd, Nat.reduceSub, Array.replicate_succ, Array.replicate_zero, List.push_toArray, List.append_toArray, List.nil_append, List.cons_append]
  gi_wp2
  have bO := Boxed.new w 40 (.slice none 0 0)
  have hB0 : Below w.heap.size w (w.alloc (.cells #[.slice none 0 0] 40)) := (Below.refl _ w).alloc (Nat.le_refl _) _
  refine wpIn_rangeFunc_ownH hro h1 (gf := 192) (lb := #[.pointer (some ⟨Bt, 0, none⟩)]) rfl h5 (enters_of Tryz.func192 (by kernel_rfl) rfl)
    (all_stops F hd (n - 1) h5 h6 hro Bt p0 T w _ (by simp; omega) (Grw.cell hc _ (Grw.alloc w _)) hT (Grw.alloc w _)) belowK_t (belowK_b (by simp)) (Below.refl _ _) (fun _ => rfl)
    (fun pre W => (∃ v, Boxed W w.heap.size 40 v ∧ W.ownsRow w.heap.size 105 3 v pre.length (flat extC pre) ∧ True) ∧ Below w.heap.size w W)
    (fun _ _ _ => False)
    (OwnFrom.and (Own.from (holdsRow_own w.heap.size w.heap.size 40 105 3 (fun pre : List Ext => pre.length) (fun pre => flat extC pre) (fun _ _ => True)) _) (ownFrom_below (Nat.le_refl _) (by simp)))
    (fun _ _ _ _ _ hs _ _ => hs)
    ⟨⟨_, bO, World.ownsRow_nil _ _ _ _, trivial⟩, hB0⟩
    (fun x a' W => ∃ Bx, W.heap[Bx]? = some (.cells #[.int .i64 x.at_, .int .i64 x.len, .int .i64 x.slot] 105 (0, 0)) ∧ a' = { tmps := #[.slice none 0 0, .func (.func 192) #[] #[.pointer (some ⟨Bt, 0, none⟩)], .pointer (some ⟨w.heap.size, 0, none⟩), undef, .slice none 0 0, .pointer (some ⟨Bx, 0, none⟩), .func (.func 192) #[] #[.pointer (some ⟨Bt, 0, none⟩)], extV x, undef, undef, undef, undef, undef], defers := [] })
    (fun x a' _ X Y row hs hg hr => by
      obtain ⟨Bx, h1, h2⟩ := hs
      refine ⟨Bx, (hg.block Bx (Array.getElem?_eq_some_iff.1 h1).1 (fun e => ?_)).trans h1, h2⟩
      obtain ⟨_, o, ho, hc⟩ := hr Bx e.symm
      rw [h1] at ho
      cases ho
      cases hc)
    ?assign ?body ?done ?stop
  case assign =>
    rintro l pre x W K ⟨⟨v, hv, hrow, -⟩, hB1⟩ hK
    gi_wp2
    exact hK _ _ ((KeepsOthers.alloc _ _).from _) ((Below.refl _ W).alloc hB1.size _) ⟨⟨v, hv.alloc _, hrow.alloc _, trivial⟩, hB1.alloc hB1.size _⟩ ⟨W.heap.size, alloc_blk W _, rfl⟩
  case body =>
    rintro l pre x a' W hl ⟨r, hr⟩ ⟨⟨v, hv, hrow, -⟩, hB⟩ ⟨Bx, hBx, rfl⟩ hlt
    have hcv := hv.cell
    obtain ⟨x0, x1, x2⟩ := ext_cells hBx
    have hgs := Grw.self W
    have hcn := news1 W x
    gi_wp2_with (gi_at_builtin; refine wpListIn_append_own _ rfl _ _ 40 rfl w.heap.size 105 i0 _ 3 24 Tryz.underlying40 hi hz0 hz1 hz2 rfl (by decide) _ _ _ rfl (hrow.alloc _) ⟨W.heap.size, 0, none⟩ 1 1 (extC x) rfl rfl hcn (ext_one x) (by unfold maxLen; omega) (by omega) (by have := hB.size; simp; omega) ?_; intro v' w1 hown' hgrow _; obtain ⟨g', cap', rfl⟩ := ownsRow_succ hown'; obtain ⟨hv1, hv2, hr2, hk2, hb2⟩ := hv.appended (by decide) hrow hB.size (Nat.le_refl _) hown' hgrow; have hc1 := hv1.cell; have hf1 := hv1.frozen)
    exact ⟨hk2.from _, hb2, ⟨_, hv2, by rw [flat_snoc, List.length_append]; exact hr2, trivial⟩, hB.trans hb2⟩
  case done =>
    rintro D ys W hD rfl ⟨⟨v, hv, hrow, -⟩, hB⟩ hK
    have hcv := hv.cell
    gi_wp2
    refine ⟨by simp, .inl ⟨_, _, rfl, run_takeDeferred hK, ?_⟩⟩
    exact ⟨_, results_tmp rfl _ _ _, v, rfl, ownsRow_putObj hrow _ hK rfl, hB.trans (belowK_b (w := w) (Nat.le_refl _) W D _ _ (by simp at hD; omega) hK rfl rfl)⟩
  case stop =>
    rintro D c pre W _ _ h _
    exact h.elim
end Go.Proofs.YtbfdnfkflnajlaaGreat

/-! the extents of a volume. -/
namespace Go.Proofs.YtbfdnfkflnajlaaGreat
open Go.RowKit Go.Shelf
open Ext hiding One

abbrev volV (n r : Int) (p : Option Addr) : Value := .agg #[.int .i64 n, .int .i64 r, .pointer p]
set_option maxRecDepth 100000 in
set_option maxHeartbeats 1000000 in
theorem collect_any {T : Tr} {Bt : Nat} {p : Option Addr} {W0 : World} (hBt : Bt < W0.heap.size) (hc : W0.cell? ⟨Bt, 0, none⟩ = some (.pointer p)) (hT : IsT W0 p T) (hlen : T.toL.length ≤ 1000000) :
    Calls Tryz.prog 151 #[.func (.func 192) #[] #[.pointer (some ⟨Bt, 0, none⟩)]] W0 (RetE W0.heap.size T.toL W0) := by
  have c1 := callsIn_wide.1 (appendSeq_in Fence.wide rfl 3 (Nat.le_refl _) trivial trivial trivial rfl Bt p T W0 hBt hc hT hlen)
  go_enter Tryz.func151, Tryz.ntmps151
  go_wp2_with (go_at_call 191; refine c1.mono ?_; clear c1; rintro e w1 ⟨v, rfl, hown, hg⟩)
  go_ret
  exact ⟨_, rfl, hown, hg⟩
set_option maxRecDepth 100000 in
set_option maxHeartbeats 1000000 in
theorem all_any {p : Option Addr} {W0 : World} :
    Calls Tryz.prog 152 #[treeV p] W0 fun e w' => e = .returned (.func (.func 192) #[] #[.pointer (some ⟨W0.heap.size, 0, none⟩)]) ∧ w' = W0.alloc (.cells #[.pointer p] 168) := by
  have hmf : ∀ (fn : Fn) (first cap : Array Value) (w : World), (Instr.makeFunc fn first cap).run Tryz.prog w = .ok (.func fn first cap) w := fun _ _ _ _ => rfl
  go_enter Tryz.func152, Tryz.ntmps152
  go_wp2
  go_ret
  exact ⟨rfl, rfl⟩
set_option maxRecDepth 100000 in
set_option maxHeartbeats 1000000 in
theorem extents_any {T : Tr} {n r : Int} {p : Option Addr} {W0 : World} (hT : IsT W0 p T) (hlen : T.toL.length ≤ 1000000) :
    Calls Tryz.prog 91 #[volV n r p] W0 (RetE W0.heap.size T.toL W0) := by
  have hg0 := Grw.alloc W0 (.cells #[.int .i64 n, .int .i64 r, .pointer p] 170)
  have hb := alloc2_blk W0 (.cells #[.int .i64 n, .int .i64 r, .pointer p] 170) (.cells #[.pointer p] 168)
  have c1 := collect_any (T := T) (Bt := W0.heap.size + 1) (W0 := (W0.alloc (.cells #[.int .i64 n, .int .i64 r, .pointer p] 170)).alloc (.cells #[.pointer p] 168)) (by simp) (var_facts hb).1 (hT.grw (hg0.alc _)) hlen
  have ca := all_any (p := p) (W0 := W0.alloc (.cells #[.int .i64 n, .int .i64 r, .pointer p] 170))
  simp only [World.size_alloc] at c1 ca
  go_enter Tryz.func91, Tryz.ntmps91
  go_wp2_with (first | (go_at_call 152; refine ca.mono ?_; clear ca; rintro e w1 ⟨rfl, rfl⟩) | (go_at_call 151; refine c1.mono ?_; clear c1; rintro e w1 ⟨v, rfl, hown, hg⟩))
  go_ret
  exact ⟨_, rfl, own_low hown (by omega), (hg0.alc _).then hg⟩
end Go.Proofs.YtbfdnfkflnajlaaGreat
