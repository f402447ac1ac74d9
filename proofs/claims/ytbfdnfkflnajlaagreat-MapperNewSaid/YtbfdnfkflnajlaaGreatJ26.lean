/-
  mapper: the changes 'delete' and 'unmap'. mapper: the change 'assign', where all goes well. mapper: Apply of a nil mapper.
-/
import Derived.Test.YtbfdnfkflnajlaaGreatJ23
import Derived.Test.YtbfdnfkflnajlaaGreatJ25
import Derived.Defers
import Derived.Recover
set_option linter.unusedVariables false
set_option linter.unusedSimpArgs false
/-! mapper: the changes 'delete' and 'unmap'. -/
namespace Go.Proofs.YtbfdnfkflnajlaaGreat
open Go.RowKit Go.Shelf
open Ext hiding One

theorem RetExD.any2 {x : Except Int Fam} {w w' : World} {e : Ending} (h : RetExD x w e w') : ∃ g, RetFD g (errE x) w e w' ∧ ∀ g', x = .ok g' → g = g' := by
  cases x with
  | ok g => exact ⟨g, h, fun g' e => by injection e⟩
  | error k => exact ⟨fam0, h, fun g' e => by cases e⟩
set_option maxRecDepth 100000 in
set_option maxHeartbeats 4000000 in
theorem ch_delete_any {Wm W0 : World} {v : Value} {f : Fam} {p : Nat} {bs rest nm : List UInt8} (hm : Grw Wm W0) (hF : FamR Wm v f) (hf : f.WF) (hp : Wm.heap.size ≤ p) (hR : RdAt W0 p bs)
    (h1 : readB bs = some (nm, rest)) (hnm : nm ≠ []) (hl : bs.length ≤ 1000000) (hnl : nm.length ≤ 1000000) :
    Calls Tryz.prog 108 #[v, rdV p] W0 (RetCh (f.delete nm) p rest Wm W0) := by
  have hF0 := hF
  obtain ⟨s, mp, rfl, hs, hmF⟩ := hF
  obtain ⟨A, cap, rfl, -, -, -⟩ := hs.shape
  have hpl := hR.lt
  have hms := hm.size
  have hW := ((Grw.alloc W0 (.cells #[.slice A f.cs.length cap, .map mp] 76)).alc (.cells #[ptr p] 115)).alc (.cells #[.slice none 0 0, .map none] 76)
  have b2 : (((W0.alloc (.cells #[.slice A f.cs.length cap, .map mp] 76)).alloc (.cells #[ptr p] 115)).alloc (.cells #[.slice none 0 0, .map none] 76)).heap[W0.heap.size]? = some (.cells #[.slice A f.cs.length cap, .map mp] 76 (0, 0)) := ((Grw.alloc _ _).alc _).blk (alloc_blk _ _)
  have b3 : (((W0.alloc (.cells #[.slice A f.cs.length cap, .map mp] 76)).alloc (.cells #[ptr p] 115)).alloc (.cells #[.slice none 0 0, .map none] 76)).heap[W0.heap.size + 1]? = some (.cells #[ptr p] 115 (0, 0)) := (Grw.alloc _ _).blk (by have := alloc_blk (W0.alloc (.cells #[.slice A f.cs.length cap, .map mp] 76)) (.cells #[ptr p] 115); simpa only [World.size_alloc] using this)
  have b4 : (((W0.alloc (.cells #[.slice A f.cs.length cap, .map mp] 76)).alloc (.cells #[ptr p] 115)).alloc (.cells #[.slice none 0 0, .map none] 76)).heap[W0.heap.size + 1 + 1]? = some (.cells #[.slice none 0 0, .map none] 76 (0, 0)) := by have := alloc_blk ((W0.alloc (.cells #[.slice A f.cs.length cap, .map mp] 76)).alloc (.cells #[ptr p] 115)) (.cells #[.slice none 0 0, .map none] 76); simpa only [World.size_alloc] using this
  have hRW := hR.up hW
  have hmW := hm.then hW
  have c3 := fun (W : World) (hr : RdAt W p bs) => rname_any hr hl h1 hnm
  have c4 := fun (W : World) (hg : Grw Wm W) => delete_fam (nm := nm) (hF0.grw hg) hf hnl
  clear hF0 hf h1 hl hnl hs hmF hR hm
  generalize hX : f.delete nm = X at *
  clear hX
  generalize f.cs.length = CL at *
  go_enter Tryz.func108, Tryz.ntmps108
  go_upto_region 1 with (fail)
  generalize ((W0.alloc (.cells #[.slice A CL cap, .map mp] 76)).alloc (.cells #[ptr p] 115)).alloc (.cells #[.slice none 0 0, .map none] 76) = W at hW b2 b3 b4 hRW hmW ⊢
  have e3 := GrwX.cells (X := atPB p W0.heap.size) b3 (by unfold atPB; omega) 0
  simp only [List.getElem?_toArray, List.getElem?_cons_succ, List.getElem?_cons_zero] at e3
  have hWX := hW.x (X := atP p)
  have gsy := GrwX.self (atPB p W0.heap.size) W
  have j0 := (Grw.drw W).x (X := atP p)
  obtain ⟨t0, t1⟩ := map_load b2
  refine gv_region (atPB p W0.heap.size) (.q 1 (.two 0 2 (.e 2 (.e 3 (.q 4 (.q 5 (.q 6 (.q 7 (.e 8 (.q 9 (.q 10 .nil))))))))) (.e 0 (.e 3 (.q 4 (.q 5 (.q 6 (.q 7 (.e 8 (.q 9 (.q 10 .nil))))))))))) (by kernel_rfl) (by kernel_rfl) (fun c a d v w1 h => by cases d <;> exact h) ?_
  intro A hA
  iterate 1 (apply gv_q hA rfl rfl; intro pp; go_simp; rfl; go_simp)
  refine gv_two hA rfl rfl rfl rfl (fun K hK => ?_) (fun K hK => ?_)
  · go_wp2
    refine ⟨j0.wide (fun k h => .inl h), ?_⟩
    refine gv_e hA rfl rfl (fun K hK => ?_)
    go_wp2_with (go_at_call 101; refine (c3 _ (hRW.up (Grw.drw W))).mono ?_; clear c3; rintro e w3 ⟨rfl, q3, g3⟩)
    have j3 := j0.then g3
    have hm3 := grw_x hmW j3 hp
    refine ⟨j3.wide (fun k h => .inl h), ?_⟩
    refine gv_e hA rfl rfl (fun K hK => ?_)
    go_wp2_with (go_at_call 66; refine (c4 _ hm3).mono ?_; clear c4; rintro e w4 hR; obtain ⟨g, ⟨s1, mp1, vl, ll, rfl, hF1, hvl, g4⟩, hgg⟩ := RetExD.any2 hR; obtain ⟨A1, cap1, rfl⟩ := hF1.sl; clear hR)
    have j4 := j3.then g4.x
    have hm4 := hm3.then g4
    have q4 := q3.up g4
    refine ⟨j4.wide (fun k h => .inl h), ?_⟩
    iterate 4 (apply gv_q hA rfl rfl; intro pp; go_simp; rfl; go_simp)
    have d2 := j4.blk b2 (by unfold atP; omega)
    have d4 := j4.blk b4 (by unfold atP; omega)
    have hlt4 := (Array.getElem?_eq_some_iff.1 d4).1
    obtain ⟨x0, x1, x2, x3⟩ := map_facts d2
    refine gv_e hA rfl rfl (fun K hK => ?_)
    go_wp2
    refine ⟨((j4.wide (Y := atPB p W0.heap.size) (fun k h => .inl h)).set (p := ⟨W0.heap.size, 0, none⟩) (.inr rfl) _).set (p := ⟨W0.heap.size, 1, none⟩) (.inr rfl) _, ?_⟩
    iterate 2 (apply gv_q hA rfl rfl; intro pp; go_simp; rfl; go_simp)
    obtain ⟨hi1, hm1⟩ := hF1.parts
    have c0 := setCell_blk d2 0 (.slice A1 g.cs.length cap1)
    simp only [List.setIfInBounds_toArray, List.set_cons_zero] at c0
    have hi2 := Ints.setB (o := 1) (v := .map mp1) c0 (by simp) (Ints.setB (o := 0) (v := .slice A1 g.cs.length cap1) d2 (by simp) hi1)
    have hm2 := MapF.setB (o := 1) (v := .map mp1) c0 (by decide) (MapF.setB (o := 0) (v := .slice A1 g.cs.length cap1) d2 (by decide) hm1)
    have q5 := RdAt.setInts (o := 0) (v := .slice A1 g.cs.length cap1) d2 (by simp) (by omega) q4
    have q6 := RdAt.setInts (o := 1) (v := .map mp1) c0 (by simp) (by omega) q5
    have hm5 := (hm4.setOwn (b := W0.heap.size) (o := 0) (by omega) (.slice A1 g.cs.length cap1)).setOwn (b := W0.heap.size) (o := 1) (by omega) (.map mp1)
    have d5 := set_map_blk (v0 := .slice A1 g.cs.length cap1) (v1 := .map mp1) d2
    have d6 := blk_set (b := W0.heap.size) (o := 1) (v := .map mp1) (blk_set (b := W0.heap.size) (o := 0) (v := .slice A1 g.cs.length cap1) d4 (by omega)) (by omega)
    have hxz := ((hWX.then j4).setHi (n := W0.heap.size) (o := 0) (by omega) (.slice A1 g.cs.length cap1)).setHi (n := W0.heap.size) (o := 1) (by omega) (.map mp1)
    have gz := (hxz.setHi (n := W0.heap.size + 1 + 1) (o := 0) (by omega) (.slice A1 g.cs.length cap1)).setHi (n := W0.heap.size + 1 + 1) (o := 1) (by omega) (.map mp1)
    obtain ⟨y0, y1, -, -⟩ := map_facts d5
    obtain ⟨f0, f1, f2, f3⟩ := res_facts d6
    obtain ⟨qq0, qq1, hr, g9⟩ := ret_fam (w0 := Wm) d6 hm5 (by omega) hi2 hm2
    have c1 := setCell_blk d6 0 (.slice A1 g.cs.length cap1)
    have q7 := RdAt.setInts (o := 0) (v := .slice A1 g.cs.length cap1) d6 (by simp) (by omega) q6
    have q8 := RdAt.setInts (o := 1) (v := .map mp1) c1 (by simp) (by omega) q7
    generalize (w4.setCell ⟨W0.heap.size, 0, none⟩ (.slice A1 g.cs.length cap1)).setCell ⟨W0.heap.size, 1, none⟩ (.map mp1) = wz at hi2 hm2 q6 hm5 d5 d6 y0 y1 f0 f1 f2 f3 qq0 qq1 hr g9 c1 q7 q8 hxz gz ⊢
    refine o_nil ?_
    go_wp2
    refine bodyPost_ret (v := .tuple #[famV (.slice A1 g.cs.length cap1) mp1, .int .i64 (errE X)]) (by simp [results, Tryz.results108, go_sem, qq0, qq1]) rfl ⟨_, _, g, rfl, hr, hgg, q8, g9, gz⟩
  · go_wp2_with (go_at_call 101; refine (c3 _ (hRW.up (Grw.drw W))).mono ?_; clear c3; rintro e w3 ⟨rfl, q3, g3⟩)
    have j3 := j0.then g3
    have hm3 := grw_x hmW j3 hp
    refine ⟨j3.wide (fun k h => .inl h), ?_⟩
    refine gv_e hA rfl rfl (fun K hK => ?_)
    obtain ⟨t2, t3⟩ := map_load (j3.blk b2 (by unfold atP; omega))
    go_wp2
    refine ⟨j3.wide (fun k h => .inl h), ?_⟩
    refine gv_e hA rfl rfl (fun K hK => ?_)
    go_wp2_with (go_at_call 66; refine (c4 _ hm3).mono ?_; clear c4; rintro e w4 hR; obtain ⟨g, ⟨s1, mp1, vl, ll, rfl, hF1, hvl, g4⟩, hgg⟩ := RetExD.any2 hR; obtain ⟨A1, cap1, rfl⟩ := hF1.sl; clear hR)
    have j4 := j3.then g4.x
    have hm4 := hm3.then g4
    have q4 := q3.up g4
    refine ⟨j4.wide (fun k h => .inl h), ?_⟩
    iterate 4 (apply gv_q hA rfl rfl; intro pp; go_simp; rfl; go_simp)
    have d2 := j4.blk b2 (by unfold atP; omega)
    have d4 := j4.blk b4 (by unfold atP; omega)
    have hlt4 := (Array.getElem?_eq_some_iff.1 d4).1
    obtain ⟨x0, x1, x2, x3⟩ := map_facts d2
    refine gv_e hA rfl rfl (fun K hK => ?_)
    go_wp2
    refine ⟨((j4.wide (Y := atPB p W0.heap.size) (fun k h => .inl h)).set (p := ⟨W0.heap.size, 0, none⟩) (.inr rfl) _).set (p := ⟨W0.heap.size, 1, none⟩) (.inr rfl) _, ?_⟩
    iterate 2 (apply gv_q hA rfl rfl; intro pp; go_simp; rfl; go_simp)
    obtain ⟨hi1, hm1⟩ := hF1.parts
    have c0 := setCell_blk d2 0 (.slice A1 g.cs.length cap1)
    simp only [List.setIfInBounds_toArray, List.set_cons_zero] at c0
    have hi2 := Ints.setB (o := 1) (v := .map mp1) c0 (by simp) (Ints.setB (o := 0) (v := .slice A1 g.cs.length cap1) d2 (by simp) hi1)
    have hm2 := MapF.setB (o := 1) (v := .map mp1) c0 (by decide) (MapF.setB (o := 0) (v := .slice A1 g.cs.length cap1) d2 (by decide) hm1)
    have q5 := RdAt.setInts (o := 0) (v := .slice A1 g.cs.length cap1) d2 (by simp) (by omega) q4
    have q6 := RdAt.setInts (o := 1) (v := .map mp1) c0 (by simp) (by omega) q5
    have hm5 := (hm4.setOwn (b := W0.heap.size) (o := 0) (by omega) (.slice A1 g.cs.length cap1)).setOwn (b := W0.heap.size) (o := 1) (by omega) (.map mp1)
    have d5 := set_map_blk (v0 := .slice A1 g.cs.length cap1) (v1 := .map mp1) d2
    have d6 := blk_set (b := W0.heap.size) (o := 1) (v := .map mp1) (blk_set (b := W0.heap.size) (o := 0) (v := .slice A1 g.cs.length cap1) d4 (by omega)) (by omega)
    have hxz := ((hWX.then j4).setHi (n := W0.heap.size) (o := 0) (by omega) (.slice A1 g.cs.length cap1)).setHi (n := W0.heap.size) (o := 1) (by omega) (.map mp1)
    have gz := (hxz.setHi (n := W0.heap.size + 1 + 1) (o := 0) (by omega) (.slice A1 g.cs.length cap1)).setHi (n := W0.heap.size + 1 + 1) (o := 1) (by omega) (.map mp1)
    obtain ⟨y0, y1, -, -⟩ := map_facts d5
    obtain ⟨f0, f1, f2, f3⟩ := res_facts d6
    obtain ⟨qq0, qq1, hr, g9⟩ := ret_fam (w0 := Wm) d6 hm5 (by omega) hi2 hm2
    have c1 := setCell_blk d6 0 (.slice A1 g.cs.length cap1)
    have q7 := RdAt.setInts (o := 0) (v := .slice A1 g.cs.length cap1) d6 (by simp) (by omega) q6
    have q8 := RdAt.setInts (o := 1) (v := .map mp1) c1 (by simp) (by omega) q7
    generalize (w4.setCell ⟨W0.heap.size, 0, none⟩ (.slice A1 g.cs.length cap1)).setCell ⟨W0.heap.size, 1, none⟩ (.map mp1) = wz at hi2 hm2 q6 hm5 d5 d6 y0 y1 f0 f1 f2 f3 qq0 qq1 hr g9 c1 q7 q8 hxz gz ⊢
    refine o_nil ?_
    go_wp2
    refine bodyPost_ret (v := .tuple #[famV (.slice A1 g.cs.length cap1) mp1, .int .i64 (errE X)]) (by simp [results, Tryz.results108, go_sem, qq0, qq1]) rfl ⟨_, _, g, rfl, hr, hgg, q8, g9, gz⟩
set_option maxRecDepth 100000 in
set_option maxHeartbeats 4000000 in
theorem ch_unmap_any {Wm W0 : World} {v : Value} {f : Fam} {p : Nat} {bs r1 r2 rest nm : List UInt8} {n r : Int} (hm : Grw Wm W0) (hF : FamR Wm v f) (hf : f.WF) (hp : Wm.heap.size ≤ p) (hR : RdAt W0 p bs)
    (h1 : readB bs = some (nm, r1)) (h2 : readC r1 = some (n, r2)) (h3 : readC r2 = some (r, rest)) (hnm : nm ≠ []) (hsn : smallI n) (hl : bs.length ≤ 1000000) (hl1 : r1.length ≤ 1000000) (hl2 : r2.length ≤ 1000000) (hnl : nm.length ≤ 1000000) :
    Calls Tryz.prog 105 #[v, rdV p] W0 (RetCh (f.unmap nm n r) p rest Wm W0) := by
  have hF0 := hF
  obtain ⟨s, mp, rfl, hs, hmF⟩ := hF
  obtain ⟨A, cap, rfl, -, -, -⟩ := hs.shape
  have hpl := hR.lt
  have hms := hm.size
  have hW := ((Grw.alloc W0 (.cells #[.slice A f.cs.length cap, .map mp] 76)).alc (.cells #[ptr p] 115)).alc (.cells #[.slice none 0 0, .map none] 76)
  have b2 : (((W0.alloc (.cells #[.slice A f.cs.length cap, .map mp] 76)).alloc (.cells #[ptr p] 115)).alloc (.cells #[.slice none 0 0, .map none] 76)).heap[W0.heap.size]? = some (.cells #[.slice A f.cs.length cap, .map mp] 76 (0, 0)) := ((Grw.alloc _ _).alc _).blk (alloc_blk _ _)
  have b3 : (((W0.alloc (.cells #[.slice A f.cs.length cap, .map mp] 76)).alloc (.cells #[ptr p] 115)).alloc (.cells #[.slice none 0 0, .map none] 76)).heap[W0.heap.size + 1]? = some (.cells #[ptr p] 115 (0, 0)) := (Grw.alloc _ _).blk (by have := alloc_blk (W0.alloc (.cells #[.slice A f.cs.length cap, .map mp] 76)) (.cells #[ptr p] 115); simpa only [World.size_alloc] using this)
  have b4 : (((W0.alloc (.cells #[.slice A f.cs.length cap, .map mp] 76)).alloc (.cells #[ptr p] 115)).alloc (.cells #[.slice none 0 0, .map none] 76)).heap[W0.heap.size + 1 + 1]? = some (.cells #[.slice none 0 0, .map none] 76 (0, 0)) := by have := alloc_blk ((W0.alloc (.cells #[.slice A f.cs.length cap, .map mp] 76)).alloc (.cells #[ptr p] 115)) (.cells #[.slice none 0 0, .map none] 76); simpa only [World.size_alloc] using this
  have hRW := hR.up hW
  have hmW := hm.then hW
  have c1 := fun (W : World) (hr : RdAt W p bs) => rname_any hr hl h1 hnm
  have c2 := fun (W : World) (hr : RdAt W p r1) => rnumber_any hr hl1 h2
  have c3 := fun (W : World) (hr : RdAt W p r2) => rnumber_any hr hl2 h3
  have c4 := fun (W : World) (hg : Grw Wm W) => unmap_any (nm := nm) (a := n) (n := r) (hF0.grw hg) hf hnl hsn
  clear hF0 hf h1 h2 h3 hl hl1 hl2 hnl hsn hs hmF hR hm
  generalize hX : f.unmap nm n r = X at *
  clear hX
  generalize f.cs.length = CL at *
  go_enter Tryz.func105, Tryz.ntmps105
  go_upto_region 1 with (fail)
  generalize ((W0.alloc (.cells #[.slice A CL cap, .map mp] 76)).alloc (.cells #[ptr p] 115)).alloc (.cells #[.slice none 0 0, .map none] 76) = W at hW b2 b3 b4 hRW hmW ⊢
  have e0 := GrwX.cells (X := atP p) b3 (by unfold atP; omega) 0
  simp only [List.getElem?_toArray, List.getElem?_cons_succ, List.getElem?_cons_zero] at e0
  have gsx := GrwX.self (atP p) W
  have k0 := (Grw.drw W).x (X := atP p)
  refine gx_region (atP p) [(0, true), (2, true), (1, false), (3, false), (4, true), (5, true)] (by kernel_rfl) (by kernel_rfl) (fun c a d v w1 h => by cases d <;> exact h) ?_
  intro A hA
  iterate 2 (apply gx_q hA rfl rfl; intro pp; go_simp; rfl; go_simp)
  refine gx_e hA rfl rfl (fun K hK => ?_)
  go_wp2_with (go_at_call 101; refine (c1 _ (hRW.up (Grw.drw W))).mono ?_; clear c1; rintro e w1 ⟨rfl, q1, g1⟩)
  have k1 := k0.then g1
  refine ⟨k1, ?_⟩
  refine gx_e hA rfl rfl (fun K hK => ?_)
  go_wp2_with (go_at_call 102; refine (c2 _ q1).mono ?_; clear c2; rintro e w2 ⟨rfl, q2, g2⟩)
  have k2 := k1.then g2
  refine ⟨k2, ?_⟩
  iterate 2 (apply gx_q hA rfl rfl; intro pp; go_simp; rfl; go_simp)
  refine pi_nil ?_
  go_upto_region 2 with (fail)
  have hWX := (hW.x (X := atP p)).then k2
  replace hmW := grw_x hmW k2 hp
  replace b2 := k2.blk b2 (by unfold atP; omega)
  replace b3 := k2.blk b3 (by unfold atP; omega)
  replace b4 := k2.blk b4 (by unfold atP; omega)
  clear e0 gsx hA hRW k0 k1 g1 q1 g2 k2
  have hRW := q2
  clear q2
  replace hW := True.intro
  have e3 := GrwX.cells (X := atPB p W0.heap.size) b3 (by unfold atPB; omega) 0
  simp only [List.getElem?_toArray, List.getElem?_cons_succ, List.getElem?_cons_zero] at e3
  have gsy := GrwX.self (atPB p W0.heap.size) w2
  have j0 := (Grw.drw w2).x (X := atP p)
  obtain ⟨t0, t1⟩ := map_load b2
  refine gv_region (atPB p W0.heap.size) (.q 1 (.q 2 (.q 3 (.two 0 4 (.e 4 (.e 5 (.q 6 (.q 7 (.q 8 (.q 9 (.e 10 (.q 11 (.q 12 .nil))))))))) (.e 0 (.e 5 (.q 6 (.q 7 (.q 8 (.q 9 (.e 10 (.q 11 (.q 12 .nil))))))))))))) (by kernel_rfl) (by kernel_rfl) (fun c a d v w1 h => by cases d <;> exact h) ?_
  intro A hA
  iterate 3 (apply gv_q hA rfl rfl; intro pp; go_simp; rfl; go_simp)
  refine gv_two hA rfl rfl rfl rfl (fun K hK => ?_) (fun K hK => ?_)
  · go_wp2
    refine ⟨j0.wide (fun k h => .inl h), ?_⟩
    refine gv_e hA rfl rfl (fun K hK => ?_)
    go_wp2_with (go_at_call 102; refine (c3 _ (hRW.up (Grw.drw w2))).mono ?_; clear c3; rintro e w3 ⟨rfl, q3, g3⟩)
    have j3 := j0.then g3
    have hm3 := grw_x hmW j3 hp
    refine ⟨j3.wide (fun k h => .inl h), ?_⟩
    refine gv_e hA rfl rfl (fun K hK => ?_)
    go_wp2_with (go_at_call 65; refine (c4 _ hm3).mono ?_; clear c4; rintro e w4 hR; obtain ⟨g, ⟨s1, mp1, vl, ll, rfl, hF1, hvl, g4⟩, hgg⟩ := RetExD.any2 hR; obtain ⟨A1, cap1, rfl⟩ := hF1.sl; clear hR)
    have j4 := j3.then g4.x
    have hm4 := hm3.then g4
    have q4 := q3.up g4
    refine ⟨j4.wide (fun k h => .inl h), ?_⟩
    iterate 4 (apply gv_q hA rfl rfl; intro pp; go_simp; rfl; go_simp)
    have d2 := j4.blk b2 (by unfold atP; omega)
    have d4 := j4.blk b4 (by unfold atP; omega)
    have hlt4 := (Array.getElem?_eq_some_iff.1 d4).1
    obtain ⟨x0, x1, x2, x3⟩ := map_facts d2
    refine gv_e hA rfl rfl (fun K hK => ?_)
    go_wp2
    refine ⟨((j4.wide (Y := atPB p W0.heap.size) (fun k h => .inl h)).set (p := ⟨W0.heap.size, 0, none⟩) (.inr rfl) _).set (p := ⟨W0.heap.size, 1, none⟩) (.inr rfl) _, ?_⟩
    iterate 2 (apply gv_q hA rfl rfl; intro pp; go_simp; rfl; go_simp)
    obtain ⟨hi1, hm1⟩ := hF1.parts
    have c0 := setCell_blk d2 0 (.slice A1 g.cs.length cap1)
    simp only [List.setIfInBounds_toArray, List.set_cons_zero] at c0
    have hi2 := Ints.setB (o := 1) (v := .map mp1) c0 (by simp) (Ints.setB (o := 0) (v := .slice A1 g.cs.length cap1) d2 (by simp) hi1)
    have hm2 := MapF.setB (o := 1) (v := .map mp1) c0 (by decide) (MapF.setB (o := 0) (v := .slice A1 g.cs.length cap1) d2 (by decide) hm1)
    have q5 := RdAt.setInts (o := 0) (v := .slice A1 g.cs.length cap1) d2 (by simp) (by omega) q4
    have q6 := RdAt.setInts (o := 1) (v := .map mp1) c0 (by simp) (by omega) q5
    have hm5 := (hm4.setOwn (b := W0.heap.size) (o := 0) (by omega) (.slice A1 g.cs.length cap1)).setOwn (b := W0.heap.size) (o := 1) (by omega) (.map mp1)
    have d5 := set_map_blk (v0 := .slice A1 g.cs.length cap1) (v1 := .map mp1) d2
    have d6 := blk_set (b := W0.heap.size) (o := 1) (v := .map mp1) (blk_set (b := W0.heap.size) (o := 0) (v := .slice A1 g.cs.length cap1) d4 (by omega)) (by omega)
    have hxz := ((hWX.then j4).setHi (n := W0.heap.size) (o := 0) (by omega) (.slice A1 g.cs.length cap1)).setHi (n := W0.heap.size) (o := 1) (by omega) (.map mp1)
    have gz := (hxz.setHi (n := W0.heap.size + 1 + 1) (o := 0) (by omega) (.slice A1 g.cs.length cap1)).setHi (n := W0.heap.size + 1 + 1) (o := 1) (by omega) (.map mp1)
    obtain ⟨y0, y1, -, -⟩ := map_facts d5
    obtain ⟨f0, f1, f2, f3⟩ := res_facts d6
    obtain ⟨qq0, qq1, hr, g9⟩ := ret_fam (w0 := Wm) d6 hm5 (by omega) hi2 hm2
    have c1 := setCell_blk d6 0 (.slice A1 g.cs.length cap1)
    have q7 := RdAt.setInts (o := 0) (v := .slice A1 g.cs.length cap1) d6 (by simp) (by omega) q6
    have q8 := RdAt.setInts (o := 1) (v := .map mp1) c1 (by simp) (by omega) q7
    generalize (w4.setCell ⟨W0.heap.size, 0, none⟩ (.slice A1 g.cs.length cap1)).setCell ⟨W0.heap.size, 1, none⟩ (.map mp1) = wz at hi2 hm2 q6 hm5 d5 d6 y0 y1 f0 f1 f2 f3 qq0 qq1 hr g9 c1 q7 q8 hxz gz ⊢
    refine o_nil ?_
    go_wp2
    refine bodyPost_ret (v := .tuple #[famV (.slice A1 g.cs.length cap1) mp1, .int .i64 (errE X)]) (by simp [results, Tryz.results105, go_sem, qq0, qq1]) rfl ⟨_, _, g, rfl, hr, hgg, q8, g9, gz⟩
  · go_wp2_with (go_at_call 102; refine (c3 _ (hRW.up (Grw.drw w2))).mono ?_; clear c3; rintro e w3 ⟨rfl, q3, g3⟩)
    have j3 := j0.then g3
    have hm3 := grw_x hmW j3 hp
    refine ⟨j3.wide (fun k h => .inl h), ?_⟩
    refine gv_e hA rfl rfl (fun K hK => ?_)
    obtain ⟨t2, t3⟩ := map_load (j3.blk b2 (by unfold atP; omega))
    go_wp2
    refine ⟨j3.wide (fun k h => .inl h), ?_⟩
    refine gv_e hA rfl rfl (fun K hK => ?_)
    go_wp2_with (go_at_call 65; refine (c4 _ hm3).mono ?_; clear c4; rintro e w4 hR; obtain ⟨g, ⟨s1, mp1, vl, ll, rfl, hF1, hvl, g4⟩, hgg⟩ := RetExD.any2 hR; obtain ⟨A1, cap1, rfl⟩ := hF1.sl; clear hR)
    have j4 := j3.then g4.x
    have hm4 := hm3.then g4
    have q4 := q3.up g4
    refine ⟨j4.wide (fun k h => .inl h), ?_⟩
    iterate 4 (apply gv_q hA rfl rfl; intro pp; go_simp; rfl; go_simp)
    have d2 := j4.blk b2 (by unfold atP; omega)
    have d4 := j4.blk b4 (by unfold atP; omega)
    have hlt4 := (Array.getElem?_eq_some_iff.1 d4).1
    obtain ⟨x0, x1, x2, x3⟩ := map_facts d2
    refine gv_e hA rfl rfl (fun K hK => ?_)
    go_wp2
    refine ⟨((j4.wide (Y := atPB p W0.heap.size) (fun k h => .inl h)).set (p := ⟨W0.heap.size, 0, none⟩) (.inr rfl) _).set (p := ⟨W0.heap.size, 1, none⟩) (.inr rfl) _, ?_⟩
    iterate 2 (apply gv_q hA rfl rfl; intro pp; go_simp; rfl; go_simp)
    obtain ⟨hi1, hm1⟩ := hF1.parts
    have c0 := setCell_blk d2 0 (.slice A1 g.cs.length cap1)
    simp only [List.setIfInBounds_toArray, List.set_cons_zero] at c0
    have hi2 := Ints.setB (o := 1) (v := .map mp1) c0 (by simp) (Ints.setB (o := 0) (v := .slice A1 g.cs.length cap1) d2 (by simp) hi1)
    have hm2 := MapF.setB (o := 1) (v := .map mp1) c0 (by decide) (MapF.setB (o := 0) (v := .slice A1 g.cs.length cap1) d2 (by decide) hm1)
    have q5 := RdAt.setInts (o := 0) (v := .slice A1 g.cs.length cap1) d2 (by simp) (by omega) q4
    have q6 := RdAt.setInts (o := 1) (v := .map mp1) c0 (by simp) (by omega) q5
    have hm5 := (hm4.setOwn (b := W0.heap.size) (o := 0) (by omega) (.slice A1 g.cs.length cap1)).setOwn (b := W0.heap.size) (o := 1) (by omega) (.map mp1)
    have d5 := set_map_blk (v0 := .slice A1 g.cs.length cap1) (v1 := .map mp1) d2
    have d6 := blk_set (b := W0.heap.size) (o := 1) (v := .map mp1) (blk_set (b := W0.heap.size) (o := 0) (v := .slice A1 g.cs.length cap1) d4 (by omega)) (by omega)
    have hxz := ((hWX.then j4).setHi (n := W0.heap.size) (o := 0) (by omega) (.slice A1 g.cs.length cap1)).setHi (n := W0.heap.size) (o := 1) (by omega) (.map mp1)
    have gz := (hxz.setHi (n := W0.heap.size + 1 + 1) (o := 0) (by omega) (.slice A1 g.cs.length cap1)).setHi (n := W0.heap.size + 1 + 1) (o := 1) (by omega) (.map mp1)
    obtain ⟨y0, y1, -, -⟩ := map_facts d5
    obtain ⟨f0, f1, f2, f3⟩ := res_facts d6
    obtain ⟨qq0, qq1, hr, g9⟩ := ret_fam (w0 := Wm) d6 hm5 (by omega) hi2 hm2
    have c1 := setCell_blk d6 0 (.slice A1 g.cs.length cap1)
    have q7 := RdAt.setInts (o := 0) (v := .slice A1 g.cs.length cap1) d6 (by simp) (by omega) q6
    have q8 := RdAt.setInts (o := 1) (v := .map mp1) c1 (by simp) (by omega) q7
    generalize (w4.setCell ⟨W0.heap.size, 0, none⟩ (.slice A1 g.cs.length cap1)).setCell ⟨W0.heap.size, 1, none⟩ (.map mp1) = wz at hi2 hm2 q6 hm5 d5 d6 y0 y1 f0 f1 f2 f3 qq0 qq1 hr g9 c1 q7 q8 hxz gz ⊢
    refine o_nil ?_
    go_wp2
    refine bodyPost_ret (v := .tuple #[famV (.slice A1 g.cs.length cap1) mp1, .int .i64 (errE X)]) (by simp [results, Tryz.results105, go_sem, qq0, qq1]) rfl ⟨_, _, g, rfl, hr, hgg, q8, g9, gz⟩
end Go.Proofs.YtbfdnfkflnajlaaGreat

/-! mapper: the change 'assign', where all goes well. -/
namespace Go.Proofs.YtbfdnfkflnajlaaGreat
open Go.RowKit Go.Shelf
open Ext hiding One

theorem IsT.atP {w w' : World} {p : Nat} {cs : Array Value} {t : TypeId} {fr : Nat × Nat} (hb : w.heap[p]? = some (.cells cs t fr)) (ht : t ≠ 241) (hg : GrwX (atP p) w w') :
    ∀ {T : Tr} {q : Option Addr}, IsT w q T → IsT w' q T
  | .nil, _, h => h
  | .node l x r, q, h => by
    obtain ⟨c, lp, rp, e, hc, hl, hr⟩ := h
    exact ⟨c, lp, rp, e, hg.blk hc (fun e => ht (by have e2 : c = p := e; subst e2; rw [hb] at hc; injection hc with hc; injection hc)), IsT.atP hb ht hg hl, IsT.atP hb ht hg hr⟩
/-- a family stays while a reader reads. -/
theorem FamR.atP {w w' : World} {v : Value} {f : Fam} {p : Nat} {bs : List UInt8} (h : FamR w v f) (hR : RdAt w p bs) (hg : GrwX (atP p) w w') : FamR w' v f := by
  obtain ⟨u, hb, hu⟩ := hR
  obtain ⟨Au, cu, rfl, -, -, -⟩ := hu.shape
  obtain ⟨s, mp, rfl, h1, h2⟩ := h
  refine ⟨s, mp, rfl, ⟨h1.1, h1.2.imp id ?_⟩, ?_⟩
  · rintro ⟨b, off, cap, e, a, c, hc⟩
    refine ⟨b, off, cap, e, a, c, fun j y hy => ?_⟩
    refine GrwX.cell (hc j y hy) (fun e2 => ?_) _ hg
    have e3 : b = p := e2
    subst e3
    have h9 := hc j y hy
    rw [blk_cell hb] at h9
    obtain ⟨z, _, rfl⟩ := List.mem_map.1 (List.mem_of_getElem? hy)
    have h8 : Value.int .i64 z ∈ [Value.slice Au bs.length cu, .bool false] := by
      rw [← Array.getElem?_toList] at h9
      exact List.mem_of_getElem? h9
    simp at h8
  · rcases h2 with h2 | ⟨b, D, rfl, ho, hd⟩
    · exact .inl h2
    · have hne : b ≠ p := by
        rintro rfl
        obtain ⟨es, clock, hm, _⟩ := ho
        rw [hb] at hm
        cases hm
      refine .inr ⟨b, D, rfl, ho.kept (⟨hg.os, hg.tape, hg.output, hg.size, fun i hi hn => hg.block i hi (fun e => hn (by rw [show i = p from e]))⟩ : w.grownBy w' (some p)) (by simpa using hne), hd.1, hd.2.1, fun nm z hz => ?_⟩
      obtain ⟨q, T, k1, k2, k3⟩ := hd.2.2 nm z hz
      exact ⟨q, T, k1, IsT.atP hb (by decide) hg k2, k3⟩
set_option maxRecDepth 100000 in
set_option maxHeartbeats 4000000 in
theorem ch_assign_any {Wm W0 : World} {v : Value} {p : Nat} {bs r0 nm : List UInt8} {xs : List Ext} {F : Nat → Fam} {R : Nat → List UInt8} {u : Vol} (hm : Grw Wm W0) (hF : FamR Wm v (F 0)) (hf : ∀ j, j ≤ xs.length → (F j).WF) (hp : Wm.heap.size ≤ p) (hR : RdAt W0 p bs)
    (h1 : readB bs = some (nm, r0)) (h2 : readC r0 = some ((xs.length : Int), R 0)) (hnm : nm ≠ []) (hl : bs.length ≤ 1000000) (hl1 : r0.length ≤ 1000000) (hnl : nm.length ≤ 1000000) (hm6 : xs.length ≤ 65536) (hu : getV (F 0).vols nm = some u)
    (hX : ∀ j x, xs[j]? = some x → ∃ r1 r2, readC (R j) = some (x.at_, r1) ∧ readC r1 = some (x.len, r2) ∧ readC r2 = some (x.slot, R (j + 1)) ∧ r1.length ≤ 1000000 ∧ r2.length ≤ 1000000 ∧ (R j).length ≤ 1000000 ∧ smallI x.at_ ∧ smallI x.len ∧ smallI x.slot)
    (hA : ∀ j x, xs[j]? = some x → (F j).assign nm x = .ok (F (j + 1))) :
    Calls Tryz.prog 100 #[v, rdV p] W0 (RetCh (.ok (F xs.length)) p (R xs.length) Wm W0) := by
  have hF0 := hF
  obtain ⟨s, mp, rfl, hs, hmF⟩ := hF
  obtain ⟨A, cap, rfl, -, -, -⟩ := hs.shape
  have hpl := hR.lt
  have hms := hm.size
  clear hs hmF
  generalize (F 0).cs.length = CL at *
  have hW := ((Grw.alloc W0 (.cells #[.slice A CL cap, .map mp] 76)).alc (.cells #[ptr p] 115)).alc (.cells #[.slice none 0 0, .map none] 76)
  have b2 : (((W0.alloc (.cells #[.slice A CL cap, .map mp] 76)).alloc (.cells #[ptr p] 115)).alloc (.cells #[.slice none 0 0, .map none] 76)).heap[W0.heap.size]? = some (.cells #[.slice A CL cap, .map mp] 76 (0, 0)) := ((Grw.alloc _ _).alc _).blk (alloc_blk _ _)
  have b3 : (((W0.alloc (.cells #[.slice A CL cap, .map mp] 76)).alloc (.cells #[ptr p] 115)).alloc (.cells #[.slice none 0 0, .map none] 76)).heap[W0.heap.size + 1]? = some (.cells #[ptr p] 115 (0, 0)) := (Grw.alloc _ _).blk (by have := alloc_blk (W0.alloc (.cells #[.slice A CL cap, .map mp] 76)) (.cells #[ptr p] 115); simpa only [World.size_alloc] using this)
  have b4 : (((W0.alloc (.cells #[.slice A CL cap, .map mp] 76)).alloc (.cells #[ptr p] 115)).alloc (.cells #[.slice none 0 0, .map none] 76)).heap[W0.heap.size + 1 + 1]? = some (.cells #[.slice none 0 0, .map none] 76 (0, 0)) := by have := alloc_blk ((W0.alloc (.cells #[.slice A CL cap, .map mp] 76)).alloc (.cells #[ptr p] 115)) (.cells #[.slice none 0 0, .map none] 76); simpa only [World.size_alloc] using this
  have hRW := hR.up hW
  have hmW := hm.then hW
  have c1 := rname_any hRW hl h1 hnm
  have hinf : (F 0).infoV nm = (infoV nm u.n u.res (sumL u.l) ((F 0).exc u.l), 0) := by unfold Fam.infoV; rw [hu]
  have c2 := fun (W : World) (hg : Grw Wm W) => info_any (nm := nm) (hF0.grw hg) (hf 0 (Nat.zero_le _)) hnl
  rw [hinf] at c2
  have c3 := fun (W : World) (hr : RdAt W p r0) => rnumber_any hr hl1 h2
  have d1 := fun (W : World) (j : Nat) (x : Ext) (hx : xs[j]? = some x) (hr : RdAt W p (R j)) => (show Calls Tryz.prog 104 #[rdV p] W (RetRd (extV x) p (R (j + 1)) W) from by
    obtain ⟨r1, r2, k1, k2, k3, k4, k5, k6, _⟩ := hX j x hx
    exact rextent_any hr k6 k1 k2 k3 k4 k5)
  have d2 := fun (W : World) (v : Value) (j : Nat) (x : Ext) (hx : xs[j]? = some x) (hFj : FamR W v (F j)) => (show Calls Tryz.prog 103 #[v, strV nm, extV x] W (RetFD (F (j + 1)) 0 W) from by
    obtain ⟨_, _, _, _, _, _, _, _, k7, k8, k9⟩ := hX j x hx
    have := assign_any hFj (hf j (by have := (List.getElem?_eq_some_iff.1 hx).1; omega)) hnl k7 k8 k9
    rwa [hA j x hx] at this)
  unfold infoV at c2
  obtain ⟨EX, hEX⟩ : ∃ x, (F 0).exc u.l = x := ⟨_, rfl⟩
  obtain ⟨SU, hSU⟩ : ∃ x, sumL u.l = x := ⟨_, rfl⟩
  obtain ⟨UN, hUN⟩ : ∃ x, u.n = x := ⟨_, rfl⟩
  obtain ⟨UR, hUR⟩ : ∃ x, u.res = x := ⟨_, rfl⟩
  rw [hEX, hSU, hUN, hUR] at c2
  have hFm := hF0
  replace d1 : Aside (∀ (W : World) (j : Nat) (x : Ext) (hx : xs[j]? = some x) (hr : RdAt W p (R j)), _) := d1
  replace d2 : Aside (∀ (W : World) (v : Value) (j : Nat) (x : Ext) (hx : xs[j]? = some x) (hFj : FamR W v (F j)), _) := d2
  have hLm : xs.length ≤ 65536 := hm6
  clear hF0 hf h1 h2 hl hl1 hnl hnm hR hm hu hinf hEX hSU hUN hUR hX hA
  go_enter Tryz.func100, Tryz.ntmps100
  have z0 := blk_cell b3 0
  have z1 := blk_cell b2 0
  have z2 := blk_cell b2 1
  simp only [List.getElem?_toArray, List.getElem?_cons_succ, List.getElem?_cons_zero] at z0 z1 z2
  go_wp2_with (first
    | (go_at_call 101; refine c1.mono ?_; clear c1; rintro e w1 ⟨rfl, q1, g1⟩; have hm1 := grw_x hmW g1 hp; have b2a := g1.blk b2 (by unfold atP; omega); have b3a := g1.blk b3 (by unfold atP; omega); have b4a := g1.blk b4 (by unfold atP; omega); obtain ⟨y0, y1⟩ := map_load b2a)
    | (go_at_call 42; refine (c2 _ hm1).mono ?_; clear c2; rintro e w2 ⟨rfl, g2⟩; have g2a := g2.alc (.cells #[strV nm, .int .i64 UN, .int .i64 UR, .int .i64 SU, .int .i64 EX] 98); have y3 := blk_cell (g2a.blk b3a) 0; simp only [List.getElem?_toArray, List.getElem?_cons_succ, List.getElem?_cons_zero] at y3)
    | (go_at_call 102; refine (c3 _ (q1.up g2a)).mono ?_; clear c3; rintro e w3 ⟨rfl, q3, g3⟩))
  have hm3 := grw_x (hm1.then g2a) g3 hp
  replace b2 := g3.blk (g2a.blk b2a) (by unfold atP; omega)
  replace b3 := g3.blk (g2a.blk b3a) (by unfold atP; omega)
  replace b4 := g3.blk (g2a.blk b4a) (by unfold atP; omega)
  have hF3 := hFm.grw hm3
  have hx3 := (((hW.x (X := atP p)).then g1).then g2a.x).then g3
  clear g2a g3 g1 g2 q1 b2a b3a b4a y0 y1 y3 z0 z1 z2 hm1 hmW hW hRW hFm
  go_loopg [9, 24] xs.length (fun g s9 i wx => ∃ (j : Nat) (s : Value) (mp : Option Nat), j ≤ xs.length ∧ g = xs.length - j ∧ s9 = .int .i64 0 ∧ i = .int .i64 j ∧ wx.heap[W0.heap.size]? = some (.cells #[s, .map mp] 76 (0, 0)) ∧ FamR wx (famV s mp) (F j) ∧ wx.heap[W0.heap.size + 1]? = some (.cells #[ptr p] 115 (0, 0)) ∧ wx.heap[W0.heap.size + 1 + 1]? = some (.cells #[.slice none 0 0, .map none] 76 (0, 0)) ∧ RdAt wx p (R j) ∧ Grw Wm wx ∧ GrwX (atP p) W0 wx)
  case atStart => exact ⟨0, _, _, Nat.zero_le _, rfl, rfl, rfl, b2, hF3, b3, b4, q3, hm3, hx3⟩
  case round =>
    clear b2 hF3 b3 b4 q3 hm3 hx3
    obtain ⟨j, s, mp, hj, rfl, rfl, rfl, b2, hFj, b3, b4, hRj, hmj, hxj⟩ := hrel
    obtain ⟨A', cap', rfl⟩ := hFj.sl
    obtain ⟨t0, t1⟩ := map_load b2
    by_cases hlt : j < xs.length
    · obtain ⟨x, hlx⟩ : ∃ x, xs[j]? = some x := ⟨xs[j], List.getElem?_eq_getElem hlt⟩
      obtain ⟨hjm, hlx⟩ : True ∧ Aside (xs[j]? = some x) := ⟨trivial, hlx⟩
      replace hlx := hlx
      go_upto_region 8 with (fail)
      have hlx := hlx.out
      have e3 := GrwX.cells (X := atPB p W0.heap.size) b3 (by unfold atPB; omega) 0
      simp only [List.getElem?_toArray, List.getElem?_cons_succ, List.getElem?_cons_zero] at e3
      have gsy := GrwX.self (atPB p W0.heap.size) wr
      have j0 := (Grw.drw wr).x (X := atP p)
      have hFx := fun (B : World) (hB : GrwX (atP p) wr B) => FamR.atP hFj hRj hB
      replace hlx : Aside (xs[j]? = some x) := hlx
      refine gv_region (atPB p W0.heap.size) (.q 1 (.q 2 (.two 0 3 (.e 3 (.e 4 (.q 5 (.q 6 (.q 7 (.q 8 (.e 9 (.q 10 .nil)))))))) (.e 0 (.e 4 (.q 5 (.q 6 (.q 7 (.q 8 (.e 9 (.q 10 .nil))))))))))) (by kernel_rfl) (by kernel_rfl) (fun c a d v w1 h => by cases d <;> exact h) ?_
      intro A hA
      iterate 2 (apply gv_q hA rfl rfl; intro pp; go_simp; rfl; go_simp)
      refine gv_two hA rfl rfl rfl rfl (fun K hK => ?_) (fun K hK => ?_)
      · go_wp2
        refine ⟨j0.wide (fun k h => .inl h), ?_⟩
        refine gv_e hA rfl rfl (fun K hK => ?_)
        go_wp2_with (go_at_call 104; refine (d1.out _ _ _ hlx.out (hRj.up (Grw.drw wr))).mono ?_; clear d1; rintro e w3 ⟨rfl, q3, g3⟩)
        have j3 := j0.then g3
        have hm3 := grw_x hmj j3 hp
        refine ⟨j3.wide (fun k h => .inl h), ?_⟩
        refine gv_e hA rfl rfl (fun K hK => ?_)
        go_wp2_with (go_at_call 103; refine (d2.out _ _ _ _ hlx.out (hFx _ j3)).mono ?_; clear d2; rintro e w4 ⟨s1, mp1, vl, ll, rfl, hF1, hvl, g4⟩; obtain ⟨A1, cap1, rfl⟩ := hF1.sl)
        have j4 := j3.then g4.x
        have hm4 := hm3.then g4
        have q4 := q3.up g4
        refine ⟨j4.wide (fun k h => .inl h), ?_⟩
        iterate 4 (apply gv_q hA rfl rfl; intro pp; go_simp; rfl; go_simp)
        have d2b := j4.blk b2 (by unfold atP; omega)
        have d3b := j4.blk b3 (by unfold atP; omega)
        have d4b := j4.blk b4 (by unfold atP; omega)
        obtain ⟨x0, x1, x2, x3⟩ := map_facts d2b
        refine gv_e hA rfl rfl (fun K hK => ?_)
        go_wp2
        refine ⟨((j4.wide (Y := atPB p W0.heap.size) (fun k h => .inl h)).set (p := ⟨W0.heap.size, 0, none⟩) (.inr rfl) _).set (p := ⟨W0.heap.size, 1, none⟩) (.inr rfl) _, ?_⟩
        iterate 1 (apply gv_q hA rfl rfl; intro pp; go_simp; rfl; go_simp)
        obtain ⟨hi1, hm1⟩ := hF1.parts
        have c0 := setCell_blk d2b 0 (.slice A1 (F (j + 1)).cs.length cap1)
        simp only [List.setIfInBounds_toArray, List.set_cons_zero] at c0
        have hi2 := Ints.setB (o := 1) (v := .map mp1) c0 (by simp) (Ints.setB (o := 0) (v := .slice A1 (F (j + 1)).cs.length cap1) d2b (by simp) hi1)
        have hm2 := MapF.setB (o := 1) (v := .map mp1) c0 (by decide) (MapF.setB (o := 0) (v := .slice A1 (F (j + 1)).cs.length cap1) d2b (by decide) hm1)
        have q5 := RdAt.setInts (o := 0) (v := .slice A1 (F (j + 1)).cs.length cap1) d2b (by simp) (by omega) q4
        have q6 := RdAt.setInts (o := 1) (v := .map mp1) c0 (by simp) (by omega) q5
        have hm5 := (hm4.setOwn (b := W0.heap.size) (o := 0) (by omega) (.slice A1 (F (j + 1)).cs.length cap1)).setOwn (b := W0.heap.size) (o := 1) (by omega) (.map mp1)
        have d5 := set_map_blk (v0 := .slice A1 (F (j + 1)).cs.length cap1) (v1 := .map mp1) d2b
        have d6 := blk_set (b := W0.heap.size) (o := 1) (v := .map mp1) (blk_set (b := W0.heap.size) (o := 0) (v := .slice A1 (F (j + 1)).cs.length cap1) d4b (by omega)) (by omega)
        have d7 := blk_set (b := W0.heap.size) (o := 1) (v := .map mp1) (blk_set (b := W0.heap.size) (o := 0) (v := .slice A1 (F (j + 1)).cs.length cap1) d3b (by omega)) (by omega)
        have hx5 := ((hxj.then j4).setHi (n := W0.heap.size) (o := 0) (by omega) (.slice A1 (F (j + 1)).cs.length cap1)).setHi (n := W0.heap.size) (o := 1) (by omega) (.map mp1)
        have hFn : FamR ((w4.setCell ⟨W0.heap.size, 0, none⟩ (.slice A1 (F (j + 1)).cs.length cap1)).setCell ⟨W0.heap.size, 1, none⟩ (.map mp1)) (famV (.slice A1 (F (j + 1)).cs.length cap1) mp1) (F (j + 1)) := ⟨_, _, rfl, hi2, hm2⟩
        generalize (w4.setCell ⟨W0.heap.size, 0, none⟩ (.slice A1 (F (j + 1)).cs.length cap1)).setCell ⟨W0.heap.size, 1, none⟩ (.map mp1) = wz at hi2 hm2 q6 hm5 d5 d6 d7 hFn hx5 ⊢
        refine o_nil ?_
        go_wp2
        go_roundg (xs.length - (j + 1))
        case measure => omega
        case rel => exact ⟨j + 1, _, _, by omega, rfl, rfl, by simp, d5, hFn, d7, d6, q6, hm5, hx5⟩
      · go_wp2_with (go_at_call 104; refine (d1.out _ _ _ hlx.out (hRj.up (Grw.drw wr))).mono ?_; clear d1; rintro e w3 ⟨rfl, q3, g3⟩)
        have j3 := j0.then g3
        have hm3 := grw_x hmj j3 hp
        refine ⟨j3.wide (fun k h => .inl h), ?_⟩
        refine gv_e hA rfl rfl (fun K hK => ?_)
        obtain ⟨t2, t3⟩ := map_load (j3.blk b2 (by unfold atP; omega))
        go_wp2
        refine ⟨j3.wide (fun k h => .inl h), ?_⟩
        refine gv_e hA rfl rfl (fun K hK => ?_)
        go_wp2_with (go_at_call 103; refine (d2.out _ _ _ _ hlx.out (hFx _ j3)).mono ?_; clear d2; rintro e w4 ⟨s1, mp1, vl, ll, rfl, hF1, hvl, g4⟩; obtain ⟨A1, cap1, rfl⟩ := hF1.sl)
        have j4 := j3.then g4.x
        have hm4 := hm3.then g4
        have q4 := q3.up g4
        refine ⟨j4.wide (fun k h => .inl h), ?_⟩
        iterate 4 (apply gv_q hA rfl rfl; intro pp; go_simp; rfl; go_simp)
        have d2b := j4.blk b2 (by unfold atP; omega)
        have d3b := j4.blk b3 (by unfold atP; omega)
        have d4b := j4.blk b4 (by unfold atP; omega)
        obtain ⟨x0, x1, x2, x3⟩ := map_facts d2b
        refine gv_e hA rfl rfl (fun K hK => ?_)
        go_wp2
        refine ⟨((j4.wide (Y := atPB p W0.heap.size) (fun k h => .inl h)).set (p := ⟨W0.heap.size, 0, none⟩) (.inr rfl) _).set (p := ⟨W0.heap.size, 1, none⟩) (.inr rfl) _, ?_⟩
        iterate 1 (apply gv_q hA rfl rfl; intro pp; go_simp; rfl; go_simp)
        obtain ⟨hi1, hm1⟩ := hF1.parts
        have c0 := setCell_blk d2b 0 (.slice A1 (F (j + 1)).cs.length cap1)
        simp only [List.setIfInBounds_toArray, List.set_cons_zero] at c0
        have hi2 := Ints.setB (o := 1) (v := .map mp1) c0 (by simp) (Ints.setB (o := 0) (v := .slice A1 (F (j + 1)).cs.length cap1) d2b (by simp) hi1)
        have hm2 := MapF.setB (o := 1) (v := .map mp1) c0 (by decide) (MapF.setB (o := 0) (v := .slice A1 (F (j + 1)).cs.length cap1) d2b (by decide) hm1)
        have q5 := RdAt.setInts (o := 0) (v := .slice A1 (F (j + 1)).cs.length cap1) d2b (by simp) (by omega) q4
        have q6 := RdAt.setInts (o := 1) (v := .map mp1) c0 (by simp) (by omega) q5
        have hm5 := (hm4.setOwn (b := W0.heap.size) (o := 0) (by omega) (.slice A1 (F (j + 1)).cs.length cap1)).setOwn (b := W0.heap.size) (o := 1) (by omega) (.map mp1)
        have d5 := set_map_blk (v0 := .slice A1 (F (j + 1)).cs.length cap1) (v1 := .map mp1) d2b
        have d6 := blk_set (b := W0.heap.size) (o := 1) (v := .map mp1) (blk_set (b := W0.heap.size) (o := 0) (v := .slice A1 (F (j + 1)).cs.length cap1) d4b (by omega)) (by omega)
        have d7 := blk_set (b := W0.heap.size) (o := 1) (v := .map mp1) (blk_set (b := W0.heap.size) (o := 0) (v := .slice A1 (F (j + 1)).cs.length cap1) d3b (by omega)) (by omega)
        have hx5 := ((hxj.then j4).setHi (n := W0.heap.size) (o := 0) (by omega) (.slice A1 (F (j + 1)).cs.length cap1)).setHi (n := W0.heap.size) (o := 1) (by omega) (.map mp1)
        have hFn : FamR ((w4.setCell ⟨W0.heap.size, 0, none⟩ (.slice A1 (F (j + 1)).cs.length cap1)).setCell ⟨W0.heap.size, 1, none⟩ (.map mp1)) (famV (.slice A1 (F (j + 1)).cs.length cap1) mp1) (F (j + 1)) := ⟨_, _, rfl, hi2, hm2⟩
        generalize (w4.setCell ⟨W0.heap.size, 0, none⟩ (.slice A1 (F (j + 1)).cs.length cap1)).setCell ⟨W0.heap.size, 1, none⟩ (.map mp1) = wz at hi2 hm2 q6 hm5 d5 d6 d7 hFn hx5 ⊢
        refine o_nil ?_
        go_wp2
        go_roundg (xs.length - (j + 1))
        case measure => omega
        case rel => exact ⟨j + 1, _, _, by omega, rfl, rfl, by simp, d5, hFn, d7, d6, q6, hm5, hx5⟩
    · obtain rfl : j = xs.length := by omega
      obtain ⟨hi1, hm1⟩ := hFj.parts
      obtain ⟨f0, f1, f2, f3⟩ := res_facts b4
      obtain ⟨qq0, qq1, hr, g9⟩ := ret_fam (w0 := Wm) b4 hmj (by omega) hi1 hm1
      have c1 := setCell_blk b4 0 (.slice A' (F xs.length).cs.length cap')
      have q7 := RdAt.setInts (o := 0) (v := .slice A' (F xs.length).cs.length cap') b4 (by simp) (by omega) hRj
      have q8 := RdAt.setInts (o := 1) (v := .map mp) c1 (by simp) (by omega) q7
      have gz := (hxj.setHi (n := W0.heap.size + 1 + 1) (o := 0) (by omega) (.slice A' (F xs.length).cs.length cap')).setHi (n := W0.heap.size + 1 + 1) (o := 1) (by omega) (.map mp)
      go_wp2
      refine bodyPost_ret (v := .tuple #[famV (.slice A' (F xs.length).cs.length cap') mp, .int .i64 0]) (by simp [results, Tryz.results100, go_sem, qq0, qq1]) rfl ⟨_, _, F xs.length, rfl, hr, fun g' e => by injection e, q8, g9, gz⟩
end Go.Proofs.YtbfdnfkflnajlaaGreat

/-! mapper: Apply of a nil mapper. -/
namespace Go.Proofs.YtbfdnfkflnajlaaGreat
open Go.RowKit
open Ext hiding One

set_option maxRecDepth 100000 in
set_option maxHeartbeats 1000000 in
theorem nil_apply {s : Value} {W0 : World} :
    Calls Tryz.prog 20 #[.pointer none, s] W0 fun e w' => e = .returned (.int .i64 8) ∧ Grw W0 w' := by
  have hg := Grw.alloc W0 (.cells #[.int .i64 8] 25)
  have hmf : ∀ (fn : Fn) (first cap : Array Value) (w : World), (Instr.makeFunc fn first cap).run Tryz.prog w = .ok (.func fn first cap) w := fun _ _ _ _ => rfl
  go_enter_defers Tryz.func20, Tryz.ntmps20
  go_wp2
  simp [bodyPostD, Leaves, settle, results, Tryz.results20, go_sem]
end Go.Proofs.YtbfdnfkflnajlaaGreat
