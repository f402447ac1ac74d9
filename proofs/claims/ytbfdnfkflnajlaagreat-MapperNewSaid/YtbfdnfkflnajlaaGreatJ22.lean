/-
  alloc: Give. alloc: Take. thin: claim, Claim, Claims. thin: Room, Need.
-/
import Derived.Test.YtbfdnfkflnajlaaGreatJ18
import Derived.Test.YtbfdnfkflnajlaaGreatJ21
set_option linter.unusedVariables false
set_option linter.unusedSimpArgs false
/-! alloc: Give. -/
namespace Go.Proofs.YtbfdnfkflnajlaaGreat
open Go.RowKit
open Ext hiding One

set_option maxRecDepth 100000 in
set_option maxHeartbeats 2000000 in
theorem agive_any {N : Nat} {R l : List Ext} {v sm : Value} {W0 : World} (hm0 : Exts W0 sm R) (h : Exts W0 v l) (hR : inL1 N R) (hRa : ∀ x ∈ R, x.at_ = 0) (hl : inL1 N l) (hle : ∀ i, occL R i + occL l i ≤ 1) (hN : N ≤ 65536) :
    Calls Tryz.prog 113 #[amapV N sm, v] W0 (RetMk N (fun i => occL R i + occL l i) W0) := by
  have h1 : ∀ i, occL l i ≤ 1 := fun i => by have := hle i; have := (occL_bound R i).1; omega
  have hR1 : ∀ i, occL R i ≤ 1 := fun i => by have := hle i; have := (occL_bound l i).1; omega
  have hW : ∀ s, Grw W0 (W0.alloc (.cells #[.int .i64 N, s] 129)) := fun s => Grw.alloc W0 _
  have hbm := alloc_blk W0 (.cells #[.int .i64 N, sm] 129)
  have hb4 := alloc_blk (W0.alloc (.cells #[.int .i64 N, sm] 129)) (.cells #[.int .i64 0, .slice none 0 0] 129)
  replace hbm := (Grw.alloc (W0.alloc (.cells #[.int .i64 N, sm] 129)) (.cells #[.int .i64 0, .slice none 0 0] 129)).blk hbm
  replace hW := (hW sm).alc (.cells #[.int .i64 0, .slice none 0 0] 129)
  have hl6 : inL1 65536 l := fun x hx => by have := hl x hx; omega
  have hR6 : inL1 65536 R := fun x hx => by have := hR x hx; omega
  have hsR := sumL_le hR6 hR1
  have hsl := sumL_le hl6 h1
  have hlR := len_in hR6 hR1
  have c1 := apermitted_any (h.grw hW) (hm0.grw hW) hl h1 hN
  have hlo : ∀ out, inL1 N out → (∀ i, occL out i = occL l i) → inL1 65536 out ∧ R.length + out.length ≤ 200000 ∧ 0 ≤ sumL out ∧ sumL out ≤ 65536 := fun out hi ho => by
    have hi6 : inL1 65536 out := fun x hx => by have := hi x hx; omega
    have ho1 : ∀ i, occL out i ≤ 1 := fun i => by rw [ho]; exact h1 i
    have := len_in hi6 ho1
    exact ⟨hi6, by omega, sumL_in hi6, by have := sumL_le hi6 ho1; omega⟩
  have c3 := fun (W : World) (u : Value) (out : List Ext) (hu : Exts W u (R ++ out)) (hi : inL1 N out) (ha : ∀ x ∈ out, x.at_ = 0) (ho : ∀ i, occL out i = occL l i) =>
    (runs_any hu (fun x hx => by
      rcases List.mem_append.1 hx with h | h
      · have := hRa x h; have := hR x h; unfold Ext.One; omega
      · have := ha x h; have := hi x h; unfold Ext.One; omega) (by have := (hlo out hi ho).2.1; rw [List.length_append]; omega)).mono (R' := RetOcc N (fun i => occL R i + occL l i) W) fun e w' h => by
        have h := RetRuns.occ (N := N) (fun x hx => (List.mem_append.1 hx).elim (hR x) (hi x)) h
        rwa [show (fun i => ind (occL (R ++ out) i)) = fun i => occL R i + occL l i from funext fun i => by
          rw [occL_append, ho]
          have := hle i
          have := (occL_bound R i).1
          have := (occL_bound l i).1
          rcases ind_cases (occL R i + occL l i) with h | h <;> omega] at h
  have hsz : ∀ out all, inL1 N out → (∀ i, occL out i = occL l i) → inL1 N all → (∀ i, occL all i = occL R i + occL l i) → sumL all = sumL R + sumL out := fun out all hi ho hi2 ho2 => by
    rw [sumL_occ hi, sumL_occ hi2, sumL_occ hR, ← sumTo_add]
    exact sumTo_congr fun i _ => by rw [ho2, ho]
  obtain ⟨Am, capm, rfl, -, -, -⟩ := hm0.shape
  replace hlo : Aside (∀ out, inL1 N out → (∀ i, occL out i = occL l i) → inL1 65536 out ∧ R.length + out.length ≤ 200000 ∧ 0 ≤ sumL out ∧ sumL out ≤ 65536) := hlo
  replace hsz : Aside (∀ out all, inL1 N out → (∀ i, occL out i = occL l i) → inL1 N all → (∀ i, occL all i = occL R i + occL l i) → sumL all = sumL R + sumL out) := hsz
  replace c3 : Aside (∀ (W : World) (u : Value) (out : List Ext) (hu : Exts W u (R ++ out)) (hi : inL1 N out) (ha : ∀ x ∈ out, x.at_ = 0) (ho : ∀ i, occL out i = occL l i), _) := c3
  replace hR6 : Aside (inL1 65536 R) := hR6
  have hRn := sumL_in hR
  obtain ⟨A9, cap9, rfl, -, -, -⟩ := h.shape
  clear h1 hR1 hl hle h hl6 hRa hR
  go_enter Tryz.func113, Tryz.ntmps113
  go_wp2_with (first
    | (go_at_call 156; refine c1.mono ?_; clear c1; rintro e w1 ⟨v1, out, rfl, ho1, g1, hin1, hoc1, hat1⟩; have u0 := fun (B : World) (hB : Grw w1 B) => blk_cell (hB.blk (g1.blk hbm)) 0; have u1 := fun (B : World) (hB : Grw w1 B) => blk_cell (hB.blk (g1.blk hbm)) 1; simp only [List.getElem?_toArray, List.getElem?_cons_zero, List.getElem?_cons_succ] at u0 u1; have gs1 := Grw.self w1; obtain ⟨A8, cap8, rfl, -, -, -⟩ := ho1.shape; have hgr := Grw.alloc w1 (.cells #[.slice Am R.length capm, .slice A8 out.length cap8] 40); have hbr := alloc_blk w1 (.cells #[.slice Am R.length capm, .slice A8 out.length cap8] 40); have c2 := sconcat_any hbr (hm0.grw ((hW.then g1).then hgr)) (ho1.grw hgr) (by have := (hlo.out out hin1 hoc1).2.1; omega))
    | (go_at_call 161; refine c2.mono ?_; clear c2; rintro e w2 ⟨v2, rfl, ho2, g2⟩)
    | (go_at_call 160; refine (c3.out _ _ out ho2.exts hin1 hat1 hoc1).mono ?_; clear c3; rintro e w3 ⟨v3, all, rfl, ho3, g3, hin3, hat3, hoc3⟩))
  have gA : Grw w1 w3 := hgr.then (g2.then g3)
  obtain ⟨y1, y2, y3, y4⟩ := hlo.out out hin1 hoc1
  have z3 := hsz.out out all hin1 hoc1 hin3 hoc3
  have hin36 : inL1 65536 all := fun x hx => by have := hin3 x hx; omega
  have c3 := fun (W : World) (hg : Grw w3 W) => asize_any (ho3.exts.grw hg) hin36 (by omega)
  have c4 := fun (W : World) (hg : Grw w3 W) => asize_any (ho1.grw (gA.then hg)) y1 (by omega)
  have c5 := fun (W : World) (hg : Grw w3 W) => asize_any (hm0.grw (hW.then (g1.then (gA.then hg)))) hR6.out (by omega)
  obtain ⟨S, hS⟩ : ∃ S, sumL all = S := ⟨_, rfl⟩
  obtain ⟨T, hT⟩ : ∃ T, sumL out = T := ⟨_, rfl⟩
  obtain ⟨U, hU⟩ : ∃ U, sumL R = U := ⟨_, rfl⟩
  rw [hS] at z3
  simp only [hS] at c3
  rw [hT] at y3 y4 z3
  simp only [hT] at c4
  rw [hU] at z3 hsR hRn
  simp only [hU] at c5
  subst z3
  have hw : IntKind.i64.wrap (U + T) = U + T := wrapI (by omega) (by omega)
  have v0 := fun (B : World) (hB : Grw w3 B) => u0 B (gA.then hB)
  have v1 := fun (B : World) (hB : Grw w3 B) => u1 B (gA.then hB)
  have hb5 := gA.blk (g1.blk hb4)
  simp only [World.size_alloc] at hb5
  have hox := ho3.exts
  obtain ⟨A7, cap7, rfl, -, -, -⟩ := hox.shape
  have gW := hW.then (g1.then gA)
  have gsz := (g1.then gA).size
  simp only [World.size_alloc] at gsz
  clear hS hT hU u0 u1 hbm hb4 hsz hR6 hin1 hoc1 ho1 hm0 gs1 hbr ho2 hlo ho3 hgr
  have gs := Grw.self w3
  refine gw_region [(0, true), (2, true), (3, true), (5, true), (1, false), (4, false), (6, false), (7, true), (8, true)] (by kernel_rfl) (by kernel_rfl) (fun c a d v w1 h => by cases d <;> exact h) ?_
  intro A hA
  iterate 4 (apply gw_q hA rfl rfl; intro pp; go_simp; rfl; go_simp)
  have k0 := Grw.drw w3
  refine gw_e hA rfl rfl (fun K hK => ?_)
  go_wp2_with (go_at_call 158; refine (c3 _ k0).mono ?_; clear c3; rintro e w4 ⟨rfl, g4⟩)
  have k3 := k0.then g4
  refine ⟨k3, ?_⟩
  refine gw_e hA rfl rfl (fun K hK => ?_)
  go_wp2_with (go_at_call 158; refine (c5 _ k3).mono ?_; clear c5; rintro e w5 ⟨rfl, g5⟩)
  have k4 := k3.then g5
  refine ⟨k4, ?_⟩
  refine gw_e hA rfl rfl (fun K hK => ?_)
  go_wp2_with (go_at_call 158; refine (c4 _ k4).mono ?_; clear c4; rintro e w6 ⟨rfl, g6⟩)
  have k5 := k4.then g6
  refine ⟨k5, ?_⟩
  iterate 2 (apply gw_q hA rfl rfl; intro pp; go_simp; rfl; go_simp)
  refine pi_nil ?_
  have hb6 := k5.blk hb5
  have p0 := blk_cell hb6 0
  have p1 := blk_cell hb6 1
  have p2 := blk_free hb6 0
  have p3 := blk_free hb6 1
  simp only [List.getElem?_toArray, List.getElem?_cons_zero, List.getElem?_cons_succ] at p0 p1
  have ho6 := hox.grw k5
  have g9 := gW.then k5
  go_wp2
  obtain ⟨q5, g5⟩ := set_two (w0 := W0) (.int .i64 N) (.slice A7 all.length cap7) hb6 g9 (by omega) rfl
  have q0 := q5 0 _ rfl
  have q1 := q5 1 _ rfl
  refine bodyPost_ret (v := .tuple #[amapV N (.slice A7 all.length cap7), .int .i64 0]) (by simp [results, Tryz.results113, go_sem, q0, q1]) rfl ⟨_, all, rfl, Exts.setMap hb6 (fun n => by simp) ho6, g5, hin36, hoc3⟩
end Go.Proofs.YtbfdnfkflnajlaaGreat

/-! alloc: Take. -/
namespace Go.Proofs.YtbfdnfkflnajlaaGreat
open Go.RowKit
open Ext hiding One

/-- slots come back, and some map. -/
def RetTk (N : Nat) (l : List Ext) (w : World) (e : Ending) (w' : World) : Prop := ∃ v A m cap, e = .returned (.tuple #[v, amapV N (.slice A m cap), .int .i64 0]) ∧ Exts w' v l ∧ Grw w w'
theorem ftL_in {N : Nat} {R r : List Ext} {n hint : Int} (hR : inL1 N R) (hn : 1 ≤ n) (h : ftL (fromL R hint) n = some r) : inL1 N r ∧ ∀ i, occL r i ≤ occL R i := by
  obtain ⟨h1, _, h3⟩ := fitL_spec (fromL_in hR hint) hn h
  refine ⟨h1, fun i => ?_⟩
  have e := h3 i
  have := (occL_bound R i).1
  rw [fromL_occ hR] at e
  split at e <;> omega
theorem map_facts {w : World} {b : Nat} {t : TypeId} {c s : Value} (hb : w.heap[b]? = some (.cells #[c, s] t (0, 0))) :
    w.cell? ⟨b, 0, none⟩ = some c ∧ w.cell? ⟨b, 1, none⟩ = some s ∧ w.frozen? ⟨b, 0, none⟩ = false ∧ w.frozen? ⟨b, 1, none⟩ = false :=
  ⟨blk_cell hb 0, blk_cell hb 1, blk_free hb 0, blk_free hb 1⟩
abbrev waysV : Value := .agg #[.func (.func 115) #[] #[], .func (.func 116) #[] #[], .func (.func 117) #[] #[]]
theorem ways_size (w : World) : (Go.sizeOf 191).run Tryz.prog w = .ok 1 w := by
  have h : (Tryz.prog.info? 191).map (fun i => i.size) = some 1 := by kernel_rfl
  obtain ⟨i, hi, hs⟩ := Option.map_eq_some_iff.1 h
  simp [Go.sizeOf, typeInfo, hi, hs]
theorem ways0 (w : World) : (Instr.index 192 waysV (.int .i64 0)).run Tryz.prog w = .ok (.func (.func 115) #[] #[]) w := by
  simp [Instr.index, run_underlying (show Tryz.prog.underlying 192 = some (.array 3 191) from by kernel_rfl), asIntOf, go_sem, ways_size]
theorem ways1 (w : World) : (Instr.index 192 waysV (.int .i64 1)).run Tryz.prog w = .ok (.func (.func 116) #[] #[]) w := by
  simp [Instr.index, run_underlying (show Tryz.prog.underlying 192 = some (.array 3 191) from by kernel_rfl), asIntOf, go_sem, ways_size]
theorem ways2 (w : World) : (Instr.index 192 waysV (.int .i64 2)).run Tryz.prog w = .ok (.func (.func 117) #[] #[]) w := by
  simp [Instr.index, run_underlying (show Tryz.prog.underlying 192 = some (.array 3 191) from by kernel_rfl), asIntOf, go_sem, ways_size]
set_option maxRecDepth 100000 in
set_option maxHeartbeats 4000000 in
theorem atake_any {N : Nat} {R : List Ext} {sm : Value} {n hint : Int} {W0 : World} (hm0 : Exts W0 sm R) (hR : inL1 N R) (hR1 : ∀ i, occL R i ≤ 1) (hn : 0 ≤ n) (hs : n ≤ sumL R) (hh : 0 ≤ hint ∧ hint ≤ N) (hN : N ≤ 65536) :
    Calls Tryz.prog 59 #[amapV N sm, .int .i64 n, .int .i64 hint] W0 (RetTk N (if n = 0 then [] else takeL R n hint) W0) := by
  have hR6 : inL1 65536 R := fun x hx => by have := hR x hx; omega
  have hRs := sumL_le hR hR1
  have hRl := len_in hR6 hR1
  have hbm := alloc_blk W0 (.cells #[.int .i64 N, sm] 129)
  replace hbm := (Grw.alloc (W0.alloc (.cells #[.int .i64 N, sm] 129)) (.cells #[.int .i64 0, .slice none 0 0] 129)).blk hbm
  have hb4 := alloc_blk (W0.alloc (.cells #[.int .i64 N, sm] 129)) (.cells #[.int .i64 0, .slice none 0 0] 129)
  have hW := (Grw.alloc W0 (.cells #[.int .i64 N, sm] 129)).alc (.cells #[.int .i64 0, .slice none 0 0] 129)
  simp only [World.size_alloc] at hb4
  have c1 := afree_any (n := N) (hm0.grw hW) hR6 (by omega)
  have hI0 := ways0
  have hI1 := ways1
  have hI2 := ways2
  have k1 : ¬ n < 0 := by omega
  have k2 : ¬ hint < 0 := by omega
  have k3 : ¬ hint > N := by omega
  have k4 : ¬ n > sumL R := by omega
  have cm := fun (W : World) (v : Value) (l : List Ext) (hg : Grw W0 W) (hv : Exts W v l) (hl : inL1 N l) (hle : ∀ i, occL l i ≤ occL R i) => amark_any (hm0.grw hg) hv hR6 hR1 hl hle hN
  have d1 := fun (W : World) (hg : Grw W0 W) => behind_any (m := N) (n := n) (hint := hint) (hm0.grw hg) hR6 (by omega) (by omega) (by omega)
  have d2 := fun (W : World) (hg : Grw W0 W) => anywhere_any (m := N) (n := n) (hint := hint) (hm0.grw hg) hR6 (by omega) (by omega)
  have d3 := fun (W : World) (hg : Grw W0 W) => pieces_any (m := N) (n := n) (hint := hint) (hm0.grw hg) hR6 (by omega) (by omega) (by omega) (by omega)
  have hN9 : (N : Int) ≤ 65536 := by omega
  obtain ⟨Am, capm, rfl, -, -, -⟩ := hm0.shape
  by_cases h0 : n = 0
  · subst h0
    rw [if_pos rfl]
    clear d1 d2 d3 cm hm0 hR hR6 hR1 hRs hRl hs hI0 hI1 hI2
    generalize sumL R = S at *
    generalize R.length = RL at *
    go_enter Tryz.func59, Tryz.ntmps59
    go_wp2_with (go_at_call 114; refine c1.mono ?_; clear c1; rintro e w1 ⟨rfl, g1⟩; obtain ⟨u0, u1, -, -⟩ := map_facts (g1.blk hbm); obtain ⟨u2, u3, u4, u5⟩ := map_facts (g1.blk hb4); have hb6 := g1.blk hb4; have hg6 := hW.then g1)
    have hox : Exts w1 (.slice none 0 0) [] := Rows.nil _ 3
    have gsx := GrwX.self (OwnR (W0.heap.size + 1) 1) w1
    have e0 := GrwX.cells (X := OwnR (W0.heap.size + 1) 1) (g1.blk hbm) (OwnR.not (.inl (by omega))) 0
    have e1 := GrwX.cells (X := OwnR (W0.heap.size + 1) 1) (g1.blk hbm) (OwnR.not (.inl (by omega))) 1
    simp only [List.getElem?_toArray, List.getElem?_cons_succ, List.getElem?_cons_zero] at e0 e1
    clear u0 u1 u2 u3 u4 u5 hbm g1
    refine gx_region (OwnR (W0.heap.size + 1) 1) [(0, true), (1, true), (2, false), (3, true)] (by kernel_rfl) (by kernel_rfl) (fun c a d v w1 h => by cases d <;> exact h) ?_
    intro A hA
    iterate 2 (apply gx_q hA rfl rfl; intro pp; go_simp; rfl; go_simp)
    have k0 := Grw.drw w1
    have hb8 := k0.blk hb6
    obtain ⟨f0, f1, f2, f3⟩ := map_facts hb6
    refine gx_e hA rfl rfl (fun K hK => ?_)
    go_wp2
    refine ⟨(k0.x.set (X := OwnR (W0.heap.size + 1) 1) (p := ⟨W0.heap.size + 1, 0, none⟩) OwnR.at0 _).set (p := ⟨W0.heap.size + 1, 1, none⟩) OwnR.at0 _, ?_⟩
    iterate 1 (apply gx_q hA rfl rfl; intro pp; go_simp; rfl; go_simp)
    refine pi_nil ?_
    go_wp2
    obtain ⟨q5, g5⟩ := set_two (w0 := W0) (.int .i64 N) (.slice Am RL capm) hb6 hg6 (by omega) rfl
    have q0 := q5 0 _ rfl
    have q1 := q5 1 _ rfl
    refine bodyPost_ret (v := .tuple #[.slice none 0 0, amapV N (.slice Am RL capm), .int .i64 0]) (by simp [results, Tryz.results59, go_sem, q0, q1]) rfl ⟨_, _, _, _, rfl, Rows.nil _ 3, g5.then (Grw.drw _)⟩
  · rw [if_neg h0]
    have hn1 : 1 ≤ n := by omega
    have hn0 : (n == 0) = false := by simp [h0]
    have hin1 : ∀ r, ftL (fromL R hint) n = some r → inL1 N r ∧ ∀ i, occL r i ≤ occL R i := fun r h => ftL_in hR hn1 h
    have hin2 : ∀ r, ftL R n = some r → inL1 N r ∧ ∀ i, occL r i ≤ occL R i := fun r h => ⟨(fitL_spec hR hn1 h).1, (fitL_spec hR hn1 h).2.2⟩
    have hin3 : inL1 N (piecesL R n hint) ∧ ∀ i, occL (piecesL R n hint) i ≤ occL R i := ⟨(piecesL_spec hR hn hs).1, (piecesL_spec hR hn hs).2.2⟩
    have hres : takeL R n hint = match ftL (fromL R hint) n with | some r => r | none => match ftL R n with | some r => r | none => piecesL R n hint := rfl
    rw [hres]
    clear hres
    obtain ⟨O1, hO1⟩ : ∃ O1, ftL (fromL R hint) n = O1 := ⟨_, rfl⟩
    obtain ⟨O2, hO2⟩ : ∃ O2, ftL R n = O2 := ⟨_, rfl⟩
    obtain ⟨O3, hO3⟩ : ∃ O3, piecesL R n hint = O3 := ⟨_, rfl⟩
    rw [hO1] at hin1 d1 ⊢
    rw [hO2] at hin2 d2 ⊢
    rw [hO3] at hin3 d3 ⊢
    replace cm : Aside (∀ (W : World) (v : Value) (l : List Ext) (hg : Grw W0 W) (hv : Exts W v l) (hl : inL1 N l) (hle : ∀ i, occL l i ≤ occL R i), _) := cm
    obtain ⟨a3, b3⟩ := hin3
    replace hin1 : Aside (∀ r, O1 = some r → inL1 N r ∧ ∀ i, occL r i ≤ occL R i) := hin1
    replace hin2 : Aside (∀ r, O2 = some r → inL1 N r ∧ ∀ i, occL r i ≤ occL R i) := hin2
    replace a3 : Aside (inL1 N O3) := a3
    replace b3 : Aside (∀ i, occL O3 i ≤ occL R i) := b3
    clear hO1 hO2 hO3 hR hR6 hR1 hm0 hRs hRl hs hn
    generalize sumL R = S at *
    generalize R.length = RL at *
    go_enter Tryz.func59, Tryz.ntmps59
    go_wp2_with (go_at_call 114; refine c1.mono ?_; clear c1; rintro e w1 ⟨rfl, g1⟩; replace hbm := g1.blk hbm; replace hb4 := g1.blk hb4; replace hW := hW.then g1; obtain ⟨u0, u1, -, -⟩ := map_facts hbm)
    have hsz1 : W0.heap.size + 1 < w1.heap.size := (Array.getElem?_eq_some_iff.1 hb4).1
    clear g1 u0 u1
    go_loopg [40] 3 (fun g i wx => ((g = 3 ∧ i = .int .i64 0) ∨ (g = 2 ∧ i = .int .i64 1 ∧ O1.isSome = false) ∨ (g = 1 ∧ i = .int .i64 2 ∧ O1.isSome = false ∧ O2.isSome = false)) ∧ Grw w1 wx)
    case atStart => exact ⟨.inl ⟨rfl, rfl⟩, Grw.self _⟩
    case round =>
      obtain ⟨hcase, hg⟩ := hrel
      have hgA := hW.then hg
      replace hbm := hg.blk hbm
      replace hb4 := hg.blk hb4
      have hszx := hg.size
      obtain ⟨u0, u1, -, -⟩ := map_facts hbm
      rcases hcase with ⟨rfl, rfl⟩ | ⟨rfl, rfl, n1⟩ | ⟨rfl, rfl, n1, n2⟩
      · rcases O1 with _ | r
        · go_wp2_with (go_at_call 115; refine (d1 _ hgA).mono ?_; rintro e w2 ⟨v2, rfl, hv2, g2⟩; obtain ⟨A2, p2, rfl, -, -, -⟩ := hv2.shape)
          go_roundg 2
          case measure => omega
          case rel => exact ⟨.inr (.inl ⟨rfl, rfl, rfl⟩), hg.then g2⟩
        · obtain ⟨i1, i2⟩ := hin1.out r rfl
          go_wp2_with (first
            | (go_at_call 115; refine (d1 _ hgA).mono ?_; clear d1 d2 d3; rintro e w2 ⟨v2, rfl, hv2, g2⟩; replace hbm := g2.blk hbm; replace hb4 := g2.blk hb4; obtain ⟨u2, u3, -, -⟩ := map_facts hbm; obtain ⟨A2, p2, rfl, -, -, -⟩ := hv2.shape)
            | (go_at_call 111; refine (cm.out _ _ _ (hgA.then g2) hv2 i1 i2).mono ?_; clear cm; rintro e w3 ⟨s3, rest, rfl, hv3, g3, -, -⟩; replace hb4 := g3.blk hb4; obtain ⟨A3, p3, rfl, -, -, -⟩ := hv3.shape))
          have gE := (hgA.then (g2.then g3)).alc (.cells #[.int .i64 N, .slice A3 rest.length p3] 129)
          have hb5 := (Grw.alloc w3 (.cells #[.int .i64 N, .slice A3 rest.length p3] 129)).blk hb4
          have hb7 := alloc_blk w3 (.cells #[.int .i64 N, .slice A3 rest.length p3] 129)
          have hv9 := (hv2.grw g3).grw (Grw.alloc w3 (.cells #[.int .i64 N, .slice A3 rest.length p3] 129))
          have hszz := (g2.then g3).size
          have hbz : w3.heap.size ≠ W0.heap.size + 1 := by omega
          obtain ⟨Bz, hBz⟩ : ∃ Bz, w3.heap.size = Bz := ⟨_, rfl⟩
          rw [hBz] at hb7 hbz ⊢
          generalize w3.alloc (.cells #[.int .i64 N, .slice A3 rest.length p3] 129) = W at gE hb5 hb7 hv9 ⊢
          have e0 := GrwX.cells (X := OwnR (W0.heap.size + 1) 1) hb7 (OwnR.not (.inr (by omega))) 0
          have e1 := GrwX.cells (X := OwnR (W0.heap.size + 1) 1) hb7 (OwnR.not (.inr (by omega))) 1
          simp only [List.getElem?_toArray, List.getElem?_cons_succ, List.getElem?_cons_zero] at e0 e1
          have gsx := GrwX.self (OwnR (W0.heap.size + 1) 1) W
          refine gx_region (OwnR (W0.heap.size + 1) 1) [(0, true), (1, true), (2, true), (3, true), (4, false), (5, true)] (by kernel_rfl) (by kernel_rfl) (fun c a d v w1 h => by cases d <;> exact h) ?_
          intro A hA
          iterate 4 (apply gx_q hA rfl rfl; intro pp; go_simp; rfl; go_simp)
          have k0 := Grw.drw W
          have hb8 := k0.blk hb5
          obtain ⟨f0, f1, f2, f3⟩ := map_facts hb5
          refine gx_e hA rfl rfl (fun K hK => ?_)
          go_wp2
          refine ⟨(k0.x.set (X := OwnR (W0.heap.size + 1) 1) (p := ⟨W0.heap.size + 1, 0, none⟩) OwnR.at0 _).set (p := ⟨W0.heap.size + 1, 1, none⟩) OwnR.at0 _, ?_⟩
          iterate 1 (apply gx_q hA rfl rfl; intro pp; go_simp; rfl; go_simp)
          refine pi_nil ?_
          go_wp2
          obtain ⟨q5, g5⟩ := set_two (w0 := W0) (.int .i64 N) (.slice A3 rest.length p3) hb5 gE (by omega) rfl
          have q0 := q5 0 _ rfl
          have q1 := q5 1 _ rfl
          refine bodyPost_ret (v := .tuple #[.slice A2 r.length p2, amapV N (.slice A3 rest.length p3), .int .i64 0]) (by simp [results, Tryz.results59, go_sem, q0, q1]) rfl ⟨_, _, _, _, rfl, (Exts.setMap hb5 (fun n => by simp) hv9).grw (Grw.drw _), g5.then (Grw.drw _)⟩
      · obtain rfl : O1 = none := by cases O1 <;> simp_all
        rcases O2 with _ | r
        · go_wp2_with (go_at_call 116; refine (d2 _ hgA).mono ?_; rintro e w2 ⟨v2, rfl, hv2, g2⟩; obtain ⟨A2, p2, rfl, -, -, -⟩ := hv2.shape)
          go_roundg 1
          case measure => omega
          case rel => exact ⟨.inr (.inr ⟨rfl, rfl, n1, rfl⟩), hg.then g2⟩
        · obtain ⟨i1, i2⟩ := hin2.out r rfl
          go_wp2_with (first
            | (go_at_call 116; refine (d2 _ hgA).mono ?_; clear d1 d2 d3; rintro e w2 ⟨v2, rfl, hv2, g2⟩; replace hbm := g2.blk hbm; replace hb4 := g2.blk hb4; obtain ⟨u2, u3, -, -⟩ := map_facts hbm; obtain ⟨A2, p2, rfl, -, -, -⟩ := hv2.shape)
            | (go_at_call 111; refine (cm.out _ _ _ (hgA.then g2) hv2 i1 i2).mono ?_; clear cm; rintro e w3 ⟨s3, rest, rfl, hv3, g3, -, -⟩; replace hb4 := g3.blk hb4; obtain ⟨A3, p3, rfl, -, -, -⟩ := hv3.shape))
          have gE := (hgA.then (g2.then g3)).alc (.cells #[.int .i64 N, .slice A3 rest.length p3] 129)
          have hb5 := (Grw.alloc w3 (.cells #[.int .i64 N, .slice A3 rest.length p3] 129)).blk hb4
          have hb7 := alloc_blk w3 (.cells #[.int .i64 N, .slice A3 rest.length p3] 129)
          have hv9 := (hv2.grw g3).grw (Grw.alloc w3 (.cells #[.int .i64 N, .slice A3 rest.length p3] 129))
          have hszz := (g2.then g3).size
          have hbz : w3.heap.size ≠ W0.heap.size + 1 := by omega
          obtain ⟨Bz, hBz⟩ : ∃ Bz, w3.heap.size = Bz := ⟨_, rfl⟩
          rw [hBz] at hb7 hbz ⊢
          generalize w3.alloc (.cells #[.int .i64 N, .slice A3 rest.length p3] 129) = W at gE hb5 hb7 hv9 ⊢
          have e0 := GrwX.cells (X := OwnR (W0.heap.size + 1) 1) hb7 (OwnR.not (.inr (by omega))) 0
          have e1 := GrwX.cells (X := OwnR (W0.heap.size + 1) 1) hb7 (OwnR.not (.inr (by omega))) 1
          simp only [List.getElem?_toArray, List.getElem?_cons_succ, List.getElem?_cons_zero] at e0 e1
          have gsx := GrwX.self (OwnR (W0.heap.size + 1) 1) W
          refine gx_region (OwnR (W0.heap.size + 1) 1) [(0, true), (1, true), (2, true), (3, true), (4, false), (5, true)] (by kernel_rfl) (by kernel_rfl) (fun c a d v w1 h => by cases d <;> exact h) ?_
          intro A hA
          iterate 4 (apply gx_q hA rfl rfl; intro pp; go_simp; rfl; go_simp)
          have k0 := Grw.drw W
          have hb8 := k0.blk hb5
          obtain ⟨f0, f1, f2, f3⟩ := map_facts hb5
          refine gx_e hA rfl rfl (fun K hK => ?_)
          go_wp2
          refine ⟨(k0.x.set (X := OwnR (W0.heap.size + 1) 1) (p := ⟨W0.heap.size + 1, 0, none⟩) OwnR.at0 _).set (p := ⟨W0.heap.size + 1, 1, none⟩) OwnR.at0 _, ?_⟩
          iterate 1 (apply gx_q hA rfl rfl; intro pp; go_simp; rfl; go_simp)
          refine pi_nil ?_
          go_wp2
          obtain ⟨q5, g5⟩ := set_two (w0 := W0) (.int .i64 N) (.slice A3 rest.length p3) hb5 gE (by omega) rfl
          have q0 := q5 0 _ rfl
          have q1 := q5 1 _ rfl
          refine bodyPost_ret (v := .tuple #[.slice A2 r.length p2, amapV N (.slice A3 rest.length p3), .int .i64 0]) (by simp [results, Tryz.results59, go_sem, q0, q1]) rfl ⟨_, _, _, _, rfl, (Exts.setMap hb5 (fun n => by simp) hv9).grw (Grw.drw _), g5.then (Grw.drw _)⟩
      · obtain rfl : O1 = none := by cases O1 <;> simp_all
        obtain rfl : O2 = none := by cases O2 <;> simp_all
        go_wp2_with (first
          | (go_at_call 117; refine (d3 _ hgA).mono ?_; clear d1 d2 d3; rintro e w2 ⟨v2, rfl, hv2, g2⟩; replace hbm := g2.blk hbm; replace hb4 := g2.blk hb4; obtain ⟨u2, u3, -, -⟩ := map_facts hbm; obtain ⟨A2, p2, rfl, -, -, -⟩ := hv2.shape)
          | (go_at_call 111; refine (cm.out _ _ _ (hgA.then g2) hv2 a3.out b3.out).mono ?_; clear cm; rintro e w3 ⟨s3, rest, rfl, hv3, g3, -, -⟩; replace hb4 := g3.blk hb4; obtain ⟨A3, p3, rfl, -, -, -⟩ := hv3.shape))
        have gE := (hgA.then (g2.then g3)).alc (.cells #[.int .i64 N, .slice A3 rest.length p3] 129)
        have hb5 := (Grw.alloc w3 (.cells #[.int .i64 N, .slice A3 rest.length p3] 129)).blk hb4
        have hb7 := alloc_blk w3 (.cells #[.int .i64 N, .slice A3 rest.length p3] 129)
        have hv9 := (hv2.grw g3).grw (Grw.alloc w3 (.cells #[.int .i64 N, .slice A3 rest.length p3] 129))
        have hszz := (g2.then g3).size
        have hbz : w3.heap.size ≠ W0.heap.size + 1 := by omega
        obtain ⟨Bz, hBz⟩ : ∃ Bz, w3.heap.size = Bz := ⟨_, rfl⟩
        rw [hBz] at hb7 hbz ⊢
        generalize w3.alloc (.cells #[.int .i64 N, .slice A3 rest.length p3] 129) = W at gE hb5 hb7 hv9 ⊢
        have e0 := GrwX.cells (X := OwnR (W0.heap.size + 1) 1) hb7 (OwnR.not (.inr (by omega))) 0
        have e1 := GrwX.cells (X := OwnR (W0.heap.size + 1) 1) hb7 (OwnR.not (.inr (by omega))) 1
        simp only [List.getElem?_toArray, List.getElem?_cons_succ, List.getElem?_cons_zero] at e0 e1
        have gsx := GrwX.self (OwnR (W0.heap.size + 1) 1) W
        refine gx_region (OwnR (W0.heap.size + 1) 1) [(0, true), (1, true), (2, true), (3, true), (4, false), (5, true)] (by kernel_rfl) (by kernel_rfl) (fun c a d v w1 h => by cases d <;> exact h) ?_
        intro A hA
        iterate 4 (apply gx_q hA rfl rfl; intro pp; go_simp; rfl; go_simp)
        have k0 := Grw.drw W
        have hb8 := k0.blk hb5
        obtain ⟨f0, f1, f2, f3⟩ := map_facts hb5
        refine gx_e hA rfl rfl (fun K hK => ?_)
        go_wp2
        refine ⟨(k0.x.set (X := OwnR (W0.heap.size + 1) 1) (p := ⟨W0.heap.size + 1, 0, none⟩) OwnR.at0 _).set (p := ⟨W0.heap.size + 1, 1, none⟩) OwnR.at0 _, ?_⟩
        iterate 1 (apply gx_q hA rfl rfl; intro pp; go_simp; rfl; go_simp)
        refine pi_nil ?_
        go_wp2
        obtain ⟨q5, g5⟩ := set_two (w0 := W0) (.int .i64 N) (.slice A3 rest.length p3) hb5 gE (by omega) rfl
        have q0 := q5 0 _ rfl
        have q1 := q5 1 _ rfl
        refine bodyPost_ret (v := .tuple #[.slice A2 O3.length p2, amapV N (.slice A3 rest.length p3), .int .i64 0]) (by simp [results, Tryz.results59, go_sem, q0, q1]) rfl ⟨_, _, _, _, rfl, (Exts.setMap hb5 (fun n => by simp) hv9).grw (Grw.drw _), g5.then (Grw.drw _)⟩
end Go.Proofs.YtbfdnfkflnajlaaGreat

/-! thin: claim, Claim, Claims. -/
namespace Go.Proofs.YtbfdnfkflnajlaaGreat
open Go.RowKit
open Ext hiding One

theorem exc_bound {f : Fam} {v : Vol} (hv : v ∈ f.vols) : 0 ≤ f.exc v.l ∧ f.exc v.l ≤ f.slots := by
  refine sumTo_bound (fun i => ?_) f.slots
  have h1 := cntVs_mem hv i
  have h2 := (occL_bound v.l i).1
  split
  · rename_i h
    unfold Fam.cnt at h
    omega
  · omega
theorem claim_bound {f : Fam} (hf : f.WF) {v : Vol} (hv : v ∈ f.vols) : 0 ≤ f.claim v ∧ f.claim v ≤ 65536 := by
  have h1 := exc_bound hv
  have h2 := hf.vols v hv
  obtain ⟨_, _, h3, h4, h5, _⟩ := h2
  unfold Fam.claim
  omega
set_option maxRecDepth 100000 in
set_option maxHeartbeats 1000000 in
theorem claim_any {nm : List UInt8} {n r m x : Int} {W0 : World} (hr : smallI r) (hx : smallI x) :
    Calls Tryz.prog 138 #[infoV nm n r m x] W0 fun e w' => e = .returned (.int .i64 (max 0 (r - x))) ∧ Grw W0 w' := by
  unfold smallI at hr hx
  have hw : IntKind.i64.wrap (r - x) = r - x := wrapI (by omega) (by omega)
  obtain ⟨M, hM⟩ : ∃ M, max 0 (r - x) = M := ⟨_, rfl⟩
  have hM2 : (if 0 < r - x then r - x else 0) = M := by rw [← hM]; split <;> omega
  have hM3 : (if r - x < 0 then 0 else r - x) = M := by rw [← hM]; split <;> omega
  rw [hM]
  clear hr hx
  unfold infoV
  go_enter Tryz.func138, Tryz.ntmps138
  go_wp2
  go_ret
  exact ⟨rfl, Grw.alloc _ _⟩
/-- the claim of a volume, and the error. -/
def Fam.claimV (f : Fam) (nm : List UInt8) : Int × Int :=
  match getV f.vols nm with
  | none => (0, 9)
  | some v => (f.claim v, 0)
def RetII (x : Int × Int) (w : World) (e : Ending) (w' : World) : Prop := e = .returned (.tuple #[.int .i64 x.1, .int .i64 x.2]) ∧ Grw w w'
set_option maxRecDepth 100000 in
set_option maxHeartbeats 1000000 in
theorem claimF_any {v : Value} {f : Fam} {nm : List UInt8} {W0 : World} (h : FamR W0 v f) (hf : f.WF) (hnm : nm.length ≤ 1000000) :
    Calls Tryz.prog 109 #[v, strV nm] W0 (RetII (f.claimV nm) W0) := by
  have h0 := h
  obtain ⟨s, mp, rfl, hs, hm⟩ := h
  obtain ⟨A, cap, rfl, -, -, -⟩ := hs.shape
  have hW := Grw.alloc W0 (.cells #[.slice A f.cs.length cap, .map mp] 76)
  have c1 := info_any (h0.grw hW) hf hnm
  have key : ∃ nm' n r m x k, f.infoV nm = (infoV nm' n r m x, k) ∧ f.claimV nm = (max 0 (r - x), k) ∧ smallI r ∧ smallI x := by
    unfold Fam.infoV Fam.claimV
    cases hg : getV f.vols nm with
    | none => exact ⟨_, _, _, _, _, _, rfl, rfl, by unfold smallI; omega, by unfold smallI; omega⟩
    | some v =>
      have hv := (getV_some hg).1
      have h1 := exc_bound hv
      obtain ⟨_, _, h3, h4, h5, _⟩ := hf.vols v hv
      have := hf.slots
      exact ⟨_, _, _, _, _, _, rfl, rfl, by unfold smallI; omega, by unfold smallI; omega⟩
  obtain ⟨nm', n, r, m, x, k, e1, e2, h1, h2⟩ := key
  rw [e1] at c1
  rw [e2]
  have c2 := fun (W : World) => claim_any (nm := nm') (n := n) (r := r) (m := m) (x := x) (W0 := W) h1 h2
  unfold infoV at c1 c2
  generalize max 0 (r - x) = M at *
  generalize f.cs.length = CL at *
  clear h0 hs hm e1 e2 h1 h2
  go_enter Tryz.func109, Tryz.ntmps109
  go_wp2_with (first
    | (go_at_call 42; refine c1.mono ?_; clear c1; rintro e w1 ⟨rfl, g1⟩)
    | (go_at_call 138; refine (c2 _).mono ?_; clear c2; rintro e w2 ⟨rfl, g2⟩))
  refine bodyPost_ret (v := .tuple #[.int .i64 M, .int .i64 k]) (by simp [results, Tryz.results109, go_sem]) rfl ⟨rfl, (hW.then (g1.alc _)).then g2⟩
/-- the claim of one more volume is added. -/
def RetAdd (b : Nat) (c : Int) (w : World) (e : Ending) (w' : World) : Prop := e = .returned (.tuple #[]) ∧ ∃ w1, Grw w w1 ∧ w' = w1.setCell ⟨b, 0, none⟩ (.int .i64 c)
set_option maxRecDepth 100000 in
set_option maxHeartbeats 1000000 in
theorem add_claim_any {s : Value} {mp : Option Nat} {f : Fam} {nm : List UInt8} {c : Int} {b1 b3 : Nat} {W0 : World} (h : FamR W0 (famV s mp) f) (hf : f.WF) (hnm : nm.length ≤ 1000000) (hc : smallI (c + (f.claimV nm).1))
    (h1 : W0.heap[b1]? = some (.cells #[s, .map mp] 76 (0, 0))) (h3 : W0.heap[b3]? = some (.cells #[.int .i64 c] 3 (0, 0))) :
    Calls Tryz.prog 134 #[strV nm, ptr b1, ptr b3] W0 (RetAdd b3 (c + (f.claimV nm).1) W0) := by
  have c1 := claimF_any h hf hnm
  have u0 := blk_cell h1 0
  have u1 := blk_cell h1 1
  simp only [List.getElem?_toArray, List.getElem?_cons_zero, List.getElem?_cons_succ] at u0 u1
  obtain ⟨s', mp', e, hs, -⟩ := h
  injection e with e
  obtain ⟨A, cap, rfl, -, -, -⟩ := hs.shape
  obtain rfl : s = .slice A f.cs.length cap := by
    have := congrArg (fun a : Array Value => a[0]?) e
    simpa using this
  have hw : IntKind.i64.wrap (c + (f.claimV nm).1) = c + (f.claimV nm).1 := wrapI (by have := hc.1; omega) (by have := hc.2; omega)
  obtain ⟨⟨M, k⟩, hMk⟩ : ∃ x, f.claimV nm = x := ⟨_, rfl⟩
  rw [hMk] at c1 hw ⊢
  simp only at hw ⊢
  generalize f.cs.length = CL at *
  clear hc hMk hs e
  go_enter Tryz.func134, Tryz.ntmps134
  go_wp2_with (go_at_call 109; refine c1.mono ?_; clear c1; rintro e w1 ⟨rfl, g1⟩; have h3' := g1.blk h3; obtain ⟨q0, q1⟩ := (⟨blk_cell h3' 0, blk_free h3' 0⟩ : _ ∧ _); simp only [List.getElem?_toArray, List.getElem?_cons_zero] at q0)
  exact bodyPost_end (v := .tuple #[]) (by simp [results, Tryz.results134, go_sem]) rfl ⟨rfl, w1, g1, rfl⟩
theorem sumV_take {g : Vol → Int} : ∀ {vs : List Vol} {k : Nat} {v : Vol}, vs[k]? = some v → sumV g (vs.take (k + 1)) = sumV g (vs.take k) + g v
  | [], k, v, h => by simp at h
  | u :: r, 0, v, h => by
    simp at h
    subst h
    simp [sumV]
  | u :: r, k + 1, v, h => by
    have := sumV_take (g := g) (vs := r) (k := k) (v := v) (by simpa using h)
    simp only [List.take_succ_cons, sumV]
    omega
theorem sumV_bound {g : Vol → Int} {B : Int} (hB : 0 ≤ B) : ∀ {vs : List Vol}, (∀ v ∈ vs, 0 ≤ g v ∧ g v ≤ B) → 0 ≤ sumV g vs ∧ sumV g vs ≤ B * vs.length
  | [], _ => by simp [sumV]
  | u :: r, h => by
    have h1 := h u List.mem_cons_self
    have h2 := sumV_bound hB (vs := r) fun v hv => h v (List.mem_cons_of_mem _ hv)
    simp only [sumV, List.length_cons]
    have : B * ((r.length + 1 : Nat) : Int) = B * r.length + B := by rw [Int.natCast_succ, Int.mul_add, Int.mul_one]
    omega
theorem claims_bound {f : Fam} (hf : f.WF) (k : Nat) : 0 ≤ sumV f.claim (f.vols.take k) ∧ sumV f.claim (f.vols.take k) ≤ 2097152 := by
  have h := sumV_bound (g := f.claim) (B := 65536) (by omega) (vs := f.vols.take k) fun v hv => claim_bound hf (List.mem_of_mem_take hv)
  have h2 : (f.vols.take k).length ≤ 32 := by rw [List.length_take]; have := hf.few; omega
  omega
theorem claimV_get {f : Fam} (hf : f.WF) {k : Nat} {v : Vol} (h : f.vols[k]? = some v) : f.claimV v.name = (f.claim v, 0) := by
  unfold Fam.claimV
  rw [getV_mem hf.sorted (List.mem_of_getElem? h)]
theorem Strs.setInt {w : World} {v u : Value} {l : List (List UInt8)} {b o : Nat} {c : Int} {t : TypeId} {fr : Nat × Nat} (hb : w.heap[b]? = some (.cells #[.int .i64 c] t fr)) (h : Strs w v l) : Strs (w.setCell ⟨b, o, none⟩ u) v l :=
  Rows.setOther hb (fun x hx y hy => by
    obtain ⟨z, _, rfl⟩ := List.mem_map.1 hy
    simp only [List.mem_cons, List.not_mem_nil, or_false] at hx
    subst hx
    simp) h
set_option maxRecDepth 100000 in
set_option maxHeartbeats 2000000 in
theorem claims_any {v : Value} {f : Fam} {W0 : World} (h : FamR W0 v f) (hf : f.WF) :
    Calls Tryz.prog 72 #[v] W0 fun e w' => e = .returned (.int .i64 f.claims) ∧ Grw W0 w' := by
  have h0 := h
  obtain ⟨s, mp, rfl, hs, hm⟩ := h
  obtain ⟨A, cap, rfl, -, -, -⟩ := hs.shape
  have hW := (Grw.alloc W0 (.cells #[.slice A f.cs.length cap, .map mp] 76)).alc (.cells #[.int .i64 0] 3)
  have b1 := (Grw.alloc (W0.alloc (.cells #[.slice A f.cs.length cap, .map mp] 76)) (.cells #[.int .i64 0] 3)).blk (alloc_blk W0 (.cells #[.slice A f.cs.length cap, .map mp] 76))
  have b3 := alloc_blk (W0.alloc (.cells #[.slice A f.cs.length cap, .map mp] 76)) (.cells #[.int .i64 0] 3)
  simp only [World.size_alloc] at b3
  have c1 := names_any (h0.grw hW) hf
  have c2 := fun (W : World) (hg : Grw W0 W) (k : Nat) (u : Vol) (hu : f.vols[k]? = some u) (h1 : W.heap[W0.heap.size]? = some (.cells #[.slice A f.cs.length cap, .map mp] 76 (0, 0))) (h3 : W.heap[W0.heap.size + 1]? = some (.cells #[.int .i64 (sumV f.claim (f.vols.take k))] 3 (0, 0))) =>
    add_claim_any (nm := u.name) (h0.grw hg) hf (by have := (hf.vols u (List.mem_of_getElem? hu)).1; unfold nameB at this; simp at this; omega) (by rw [claimV_get hf hu, ← sumV_take hu]; have := claims_bound hf (k + 1); unfold smallI; omega) h1 h3
  have hlen : f.names.length = f.vols.length := by simp [Fam.names]
  have hget : ∀ k : Nat, f.names[k]? = (f.vols[k]?).map Vol.name := fun k => by simp [Fam.names]
  have hstep : ∀ (k : Nat) (u : Vol), f.vols[k]? = some u → sumV f.claim (f.vols.take k) + (f.claimV u.name).1 = sumV f.claim (f.vols.take (k + 1)) := fun k u hu => by rw [claimV_get hf hu, ← sumV_take hu]
  have hres : f.claims = sumV f.claim (f.vols.take f.vols.length) := by rw [List.take_length]; rfl
  rw [hres]
  replace c2 : Aside (∀ (W : World) (hg : Grw W0 W) (k : Nat) (u : Vol) (hu : f.vols[k]? = some u) (h1 : W.heap[W0.heap.size]? = some (.cells #[.slice A f.cs.length cap, .map mp] 76 (0, 0))) (h3 : W.heap[W0.heap.size + 1]? = some (.cells #[.int .i64 (sumV f.claim (f.vols.take k))] 3 (0, 0))), _) := c2
  replace hget : Aside (∀ k : Nat, f.names[k]? = (f.vols[k]?).map Vol.name) := hget
  replace hstep : Aside (∀ (k : Nat) (u : Vol), f.vols[k]? = some u → sumV f.claim (f.vols.take k) + (f.claimV u.name).1 = sumV f.claim (f.vols.take (k + 1))) := hstep
  clear h0 hf hs hm hres
  generalize f.cs.length = CL at *
  go_enter Tryz.func72, Tryz.ntmps72
  go_wp2_with (go_at_call 40; refine c1.mono ?_; clear c1; rintro e w1 ⟨vn, rfl, hn, g1⟩; replace b1 := g1.blk b1; replace b3 := g1.blk b3; obtain ⟨An, capn, rfl, hcn, hmn, -⟩ := hn.shape)
  rw [hlen] at hn
  unfold maxLen at hmn
  go_loopg [11] f.vols.length (fun g i wx => ∃ k : Nat, k ≤ f.vols.length ∧ g = f.vols.length - k ∧ i = .int .i64 k ∧ Strs wx (.slice An f.vols.length capn) f.names ∧ wx.heap[W0.heap.size]? = some (.cells #[.slice A CL cap, .map mp] 76 (0, 0)) ∧ wx.heap[W0.heap.size + 1]? = some (.cells #[.int .i64 (sumV f.claim (f.vols.take k))] 3 (0, 0)) ∧ Grw W0 wx)
  case atStart => exact ⟨0, Nat.zero_le _, rfl, rfl, hn, b1, by simpa [sumV] using b3, hW.then g1⟩
  case round =>
    clear b1 b3 hn
    obtain ⟨k, hk, rfl, rfl, hn, b1, b3, hg⟩ := hrel
    by_cases hlt : k < f.vols.length
    · obtain ⟨u, hu⟩ : ∃ u, f.vols[k]? = some u := ⟨f.vols[k], List.getElem?_eq_getElem hlt⟩
      have hnk : f.names[k]? = some u.name := by rw [hget.out, hu]; rfl
      obtain ⟨A9, cap9, e9, _, _, hx⟩ := hn.shape
      obtain ⟨bn, off, e8, p0⟩ := hx k u.name hnk
      injection e9 with e9 e10 e11
      subst e9
      clear e10 e11
      subst e8
      have c3 := c2.out _ hg k u hu b1 b3
      have hst := hstep.out k u hu
      replace hu : Aside (f.vols[k]? = some u) := hu
      obtain ⟨S, hS⟩ : ∃ S, sumV f.claim (f.vols.take k) + (f.claimV u.name).1 = S := ⟨_, rfl⟩
      rw [hS] at c3 hst
      replace hst : Aside (S = sumV f.claim (f.vols.take (k + 1))) := hst
      obtain ⟨nu, hnu⟩ : ∃ nu, u.name = nu := ⟨_, rfl⟩
      rw [hnu] at c3 p0
      clear hx hnk hS hnu
      go_wp2_with (go_at_call 134; refine c3.mono ?_; clear c3; rintro e w3 ⟨rfl, w4, g4, rfl⟩)
      go_roundg (f.vols.length - (k + 1))
      case measure => omega
      case rel =>
        have b3' := g4.blk b3
        have b3s := setCell_blk b3' 0 (.int .i64 S)
        refine ⟨k + 1, by omega, rfl, rfl, Strs.setInt b3' (hn.grw g4), blk_set (g4.blk b1) (by omega), by rw [← hst.out]; simpa using b3s, (hg.then g4).setOwn (by omega) _⟩
    · obtain rfl : k = f.vols.length := by omega
      have q0 := blk_cell b3 0
      simp only [List.getElem?_toArray, List.getElem?_cons_zero] at q0
      go_wp2
      go_ret
      exact ⟨by rw [List.take_length]; rfl, hg⟩
end Go.Proofs.YtbfdnfkflnajlaaGreat

/-! thin: Room, Need. -/
namespace Go.Proofs.YtbfdnfkflnajlaaGreat
open Go.RowKit
open Ext hiding One

theorem free_sum {f : Fam} {out : List Ext} (hi : inL1 f.slots out) (ho : ∀ i, occL out i = f.zero i) : sumL out = f.free := by
  rw [sumL_occ hi]
  unfold Fam.free
  exact sumTo_congr fun i hi => by rw [ho]; unfold Fam.zero; simp [hi]
theorem free_bound (f : Fam) : 0 ≤ f.free ∧ f.free ≤ f.slots := sumTo_bound (fun i => by split <;> omega) f.slots
theorem claims_le {f : Fam} (hf : f.WF) : 0 ≤ f.claims ∧ f.claims ≤ 2097152 := by
  have := claims_bound hf f.vols.length
  rwa [List.take_length] at this
set_option maxRecDepth 100000 in
set_option maxHeartbeats 2000000 in
theorem room_any {v : Value} {f : Fam} {W0 : World} (h : FamR W0 v f) (hf : f.WF) :
    Calls Tryz.prog 31 #[v] W0 fun e w' => e = .returned (.int .i64 f.room) ∧ Grw W0 w' := by
  have h0 := h
  obtain ⟨s, mp, rfl, hs, hm⟩ := h
  obtain ⟨A, cap, rfl, -, -, -⟩ := hs.shape
  have hW := Grw.alloc W0 (.cells #[.slice A f.cs.length cap, .map mp] 76)
  have b1 := alloc_blk W0 (.cells #[.slice A f.cs.length cap, .map mp] 76)
  have c1 := claims_any (h0.grw hW) hf
  have c2 := fun (W : World) (hg : Grw W0 W) => free_fam (h0.grw hg) hf
  have hcl := claims_le hf
  have hfr := free_bound f
  have hsl := hf.slots
  have hsum : ∀ out, inL1 f.slots out → (∀ i, occL out i = f.zero i) → sumL out = f.free := fun out hi ho => free_sum hi ho
  unfold Fam.room
  replace hsum : Aside (∀ out, inL1 f.slots out → (∀ i, occL out i = f.zero i) → sumL out = f.free) := hsum
  obtain ⟨C, hC⟩ : ∃ C, f.claims = C := ⟨_, rfl⟩
  obtain ⟨F, hF⟩ : ∃ F, f.free = F := ⟨_, rfl⟩
  rw [hC] at c1 hcl ⊢
  rw [hF] at hfr hsum ⊢
  have hw0 : IntKind.i64.wrap (-C) = -C := wrapI (by omega) (by omega)
  clear h0 hs hm hC hF
  generalize f.cs.length = CL at *
  go_enter Tryz.func31, Tryz.ntmps31
  go_wp2_with (first
    | (go_at_call 72; refine c1.mono ?_; clear c1; rintro e w1 ⟨rfl, g1⟩; replace b1 := g1.blk b1; have u0 := blk_cell b1 0; have u1 := blk_cell b1 1; simp only [List.getElem?_toArray, List.getElem?_cons_zero, List.getElem?_cons_succ] at u0 u1)
    | (go_at_call 73; refine (c2 _ (hW.then g1)).mono ?_; clear c2; rintro e w2 ⟨vo, l, rfl, ho, g2, hin, hat, hocc⟩; obtain ⟨Al, capl, rfl, hc, hml, hx⟩ := ho.exts.shape))
  have hsl2 := hsum.out l hin hocc
  have hgA := hW.then (g1.then g2)
  unfold maxLen at hml
  have hb : ∀ k, 0 ≤ sumL (l.take k) ∧ sumL (l.take k) ≤ 65536 := by
    intro k
    have e : sumL l = sumL (l.take k) + sumL (l.drop k) := by rw [← sumL_append, List.take_append_drop]
    have := sumL_in (n := f.slots) (l := l.drop k) (fun y hy => hin y (List.mem_of_mem_drop hy))
    have := sumL_in (n := f.slots) (l := l.take k) (fun y hy => hin y (List.mem_of_mem_take hy))
    omega
  have hlen : (l.length : Int) ≤ 1000000 := by have := len_le_sum hin; omega
  have hres : Aside (F - C = -C + sumL l) := (by omega : F - C = -C + sumL l)
  replace hb : Aside (∀ k, 0 ≤ sumL (l.take k) ∧ sumL (l.take k) ≤ 65536) := hb
  replace hx : Aside (∀ i x, l[i]? = some x → ∃ b off, Al = some ⟨b, off, none⟩ ∧ w2.cell? ⟨b, off + i * 3, none⟩ = some (.int .i64 x.at_) ∧ w2.cell? ⟨b, off + i * 3 + 1, none⟩ = some (.int .i64 x.len) ∧ w2.cell? ⟨b, off + i * 3 + 2, none⟩ = some (.int .i64 x.slot)) := hx
  clear hin hocc hat hsl2 hsum ho hf
  go_loopg [3, 12] l.length (fun g s3 i wr => ∃ k : Nat, k ≤ l.length ∧ g = l.length - k ∧ i = .int .i64 k ∧ s3 = .int .i64 (-C + sumL (l.take k)) ∧ Grw w2 wr)
  case atStart => exact ⟨0, Nat.zero_le _, rfl, rfl, by simp [sumL], Grw.self _⟩
  case round =>
    obtain ⟨k, hk, rfl, rfl, rfl, hg⟩ := hrel
    by_cases hlt : k < l.length
    · obtain ⟨x, hlx⟩ : ∃ x, l[k]? = some x := ⟨l[k], List.getElem?_eq_getElem hlt⟩
      obtain ⟨b2, off, rfl, p0, p1, p2⟩ := hx.out k x hlx
      replace p0 := Grw.cell p0 _ hg
      replace p1 := Grw.cell p1 _ hg
      replace p2 := Grw.cell p2 _ hg
      have hb1 := hb.out (k + 1)
      have hnext : sumL (l.take (k + 1)) = sumL (l.take k) + x.len := sumL_take_s hlx
      have hw : IntKind.i64.wrap (-C + sumL (l.take k) + x.len) = -C + sumL (l.take k) + x.len := wrapI (by omega) (by omega)
      replace hnext : Aside (sumL (l.take (k + 1)) = sumL (l.take k) + x.len) := hnext
      clear hlx hx hb1 hb
      obtain ⟨S, hS⟩ : ∃ S, sumL (l.take k) = S := ⟨_, rfl⟩
      rw [hS] at hw hnext ⊢
      clear hS
      go_wp2
      go_roundg (l.length - (k + 1))
      case measure => omega
      case rel => exact ⟨k + 1, by omega, rfl, rfl, by rw [hnext.out, Int.add_assoc], hg.alc _⟩
    · obtain rfl : k = l.length := by omega
      clear hx
      rw [List.take_length]
      go_wp2
      go_ret
      exact ⟨by rw [hres.out]; rfl, hgA.then hg⟩
end Go.Proofs.YtbfdnfkflnajlaaGreat
