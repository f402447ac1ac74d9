/-
  awake: the example of the document holds. MapperNew: what it calls beyond the mapper's own methods. MapperNew returns true for every number.
-/
import Derived.Test.YtbfdnfkflnajlaaGreatJ25
import Derived.Test.YtbfdnfkflnajlaaGreatJ27
import Derived.Test.YtbfdnfkflnajlaaGreatJ29
set_option linter.unusedVariables false
set_option linter.unusedSimpArgs false
/-! awake: the example of the document holds. -/
namespace Go.Proofs.YtbfdnfkflnajlaaGreat
open Go.RowKit Go.Shelf
open Ext hiding One

/-- a write that is permitted: all that follows. -/
theorem plan_ok_any {p : Nat} {f : Fam} {nm : List UInt8} {a : Int} {ds : List Blk} {v : Value} {W0 : World} (h : MapR W0 p f) (hf : f.WF) (hnm : nm.length ≤ 16) (hn0 : nm ≠ []) (hroom : 0 ≤ f.room) (hE : f.planE nm a ds.length = 0) (hD : Blks W0 v ds) :
    ∃ u, getV f.vols nm = some u ∧ 1 ≤ ds.length ∧ ds.length ≤ 16 ∧ 0 ≤ a ∧ a + ds.length ≤ u.n ∧ (used (keepV f.cnt u.l a) ds.length : Int) ≤ f.claim u + f.room ∧
      Calls Tryz.prog 21 #[ptr p, strV nm, .int .i64 a, v] W0 (RetPlK f.slots f.cnt (keepV f.cnt u.l a) nm a ds W0) := by
  obtain ⟨u, hg, h1, h2, h3, h4, h5, h6, h7⟩ := planE_ok hf hE hroom
  exact ⟨u, hg, h1, h2, h3, h4, h5, plan_yes h hf hnm hn0 hg h1 h2 h3 h4 hroom h5 h6 h7 hD⟩
/-- blocks of nothing. -/
def zeroB : Blk := ⟨0, 0, 0, 0, 0, 0, 0, 0⟩
abbrev zB : Array Value := #[.int .u8 0, .int .u8 0, .int .u8 0, .int .u8 0, .int .u8 0, .int .u8 0, .int .u8 0, .int .u8 0]
theorem infoK : (Tryz.prog.info? 84).map (fun i => (i.zero, i.size, i.bytes)) = some (some (.agg zB), 8, 8) := by kernel_rfl
def mkW (w : World) (n : Nat) : World := w.alloc (.cells (madeCells zB (n * 8)) 84)
theorem mk_run (n : Nat) (hn : n ≤ 100000) (kl kc : IntKind) (w : World) : (Instr.makeSlice 38 (.int kl n) (.int kc n)).run Tryz.prog w = .ok (.slice (some ⟨w.heap.size, 0, none⟩) n n) (mkW w n) := by
  obtain ⟨i, hi, hzz⟩ := Option.map_eq_some_iff.1 infoK
  simp only [Prod.mk.injEq] at hzz
  have := run_make (P := Tryz.prog) w 38 84 i (.agg zB) Tryz.underlying38 hi hzz.1 kl kc n n (by omega) (by omega) (by rw [hzz.2.2]; omega) (by omega)
  rw [hzz.2.1] at this
  simpa [mkW, Value.cells] using this
theorem zB_get (j : Nat) : zB[j % 8]! = .int .u8 0 := by
  have h : j % 8 < 8 := Nat.mod_lt _ (by omega)
  generalize j % 8 = k at h
  rcases k with _ | _ | _ | _ | _ | _ | _ | _ | k <;> first | rfl | omega
theorem mk_blks (w : World) (n : Nat) (hn : n ≤ 100000) : Blks (mkW w n) (.slice (some ⟨w.heap.size, 0, none⟩) n n) (List.replicate n zeroB) := by
  refine ⟨by rw [flat_length blkC_len], .inr ⟨_, 0, n, by rw [List.length_replicate], by simp, by unfold maxLen; omega, fun j u hu => ?_⟩⟩
  have hj : j < n * 8 := by
    have := (List.getElem?_eq_some_iff.1 hu).1
    rw [flat_length blkC_len, List.length_replicate] at this
    exact this
  have hget := flat_get blkC_len (List.replicate n zeroB) (j / 8) zeroB (j % 8) (by rw [List.getElem?_replicate, if_pos (by omega)]) (Nat.mod_lt _ (by omega))
  rw [show j / 8 * 8 + j % 8 = j by omega] at hget
  rw [hget] at hu
  have hb : (mkW w n).heap[w.heap.size]? = some (.cells (madeCells zB (n * 8)) 84 ((madeCells zB (n * 8)).size, (madeCells zB (n * 8)).size + 1)) ∨ (mkW w n).heap[w.heap.size]? = some (.cells (madeCells zB (n * 8)) 84 (0, 0)) := .inr (alloc_blk _ _)
  have hb := alloc_blk w (.cells (madeCells zB (n * 8)) 84)
  rw [Nat.zero_add]
  show (w.alloc _).cell? _ = _
  rw [blk_cell hb]
  unfold madeCells
  rw [Array.getElem?_map, Array.getElem?_range, if_pos hj]
  simp only [Option.map_some]
  rw [show zB.size = 8 from rfl, zB_get, ← hu]
  have h8 : j % 8 < 8 := Nat.mod_lt _ (by omega)
  generalize j % 8 = k at h8
  rcases k with _ | _ | _ | _ | _ | _ | _ | _ | k <;> first | rfl | omega
theorem mk_grw (w : World) (n : Nat) : Grw w (mkW w n) := Grw.alloc _ _
/-- the slot of a write, in memory. -/
theorem Wrs.slot {w : World} {v : Value} {l : List Wr} (h : Wrs w v l) : ∃ A cap, v = .slice A l.length cap ∧ ∀ i x, l[i]? = some x → ∃ b off, A = some ⟨b, off, none⟩ ∧ w.cell? ⟨b, off + i * 9, none⟩ = some (.int .i64 x.slot) := by
  obtain ⟨h1, h2⟩ := h
  rcases h2 with ⟨rfl, h0⟩ | ⟨b, off, cap, rfl, hc, hm, hcell⟩
  · refine ⟨none, 0, by rw [h0], fun i x hx => ?_⟩
    rw [List.getElem?_eq_none (by omega)] at hx
    cases hx
  · refine ⟨_, cap, rfl, fun i x hx => ⟨b, off, rfl, ?_⟩⟩
    exact hcell _ _ (by rw [← Nat.add_zero (i * 9), flat_get wrC_len l i x 0 hx (by omega)]; rfl)
/-! ### the families of the example -/
abbrev nmA : List UInt8 := [97]
def fam10 : Fam := ⟨10, []⟩
def fam10a : Fam := ⟨10, [⟨nmA, 8, 0, []⟩]⟩
theorem fam10_WF : fam10.WF := ⟨by decide, by decide, List.Pairwise.nil, fun v hv => by cases hv⟩
theorem fam10_create : fam10.create nmA 8 0 = .ok fam10a := by rfl
theorem fam10_createE : fam10.createE nmA 8 0 = 0 := by decide
theorem fam10a_room : fam10a.room = 10 := by decide
theorem fam10a_planE : fam10a.planE nmA 2 3 = 0 := by decide
/-- the second write keeps what it has. -/
theorem second_keep {f : Fam} {nm : List UInt8} {u : Vol} {fr : List Int} {a : Int} {n : Nat} (h : f.WF) (hg : getV f.vols nm = some u) (hf : FreshL f.slots f.cnt fr) (hu : used (keepV f.cnt u.l a) n ≤ fr.length) (h0 : 0 ≤ a) (h1 : a + n ≤ u.n) {i : Nat} (hi : i < n) :
    ∃ s, slotP (keepV f.cnt u.l a) fr i = s ∧ fnd (putLs u.l (planX f u a n fr)) (a + i) = some s ∧ (f.putX u (planX f u a n fr)).cnt s.toNat = 1 := by
  refine ⟨_, rfl, ?_, (plan_excl h hg hf hu h0 h1 hi).2⟩
  rw [plan_at h hg hf hu h0 h1, if_pos (by omega), show (a + (i : Int) - a).toNat = i by omega]
/-- the error of a write whose range is valid. -/
theorem planE_val {f : Fam} (hf : f.WF) {nm : List UInt8} {u : Vol} (hg : getV f.vols nm = some u) {a : Int} {n : Nat} (h1 : 1 ≤ n) (h2 : n ≤ 16) (h3 : 0 ≤ a) (h4 : a + n ≤ u.n) : f.planE nm a n = enoughI (used (keepV f.cnt u.l a) n) (f.claim u + max 0 f.room) := by
  have hrg : f.range nm a n = (inL u.l a n, 0) := by unfold Fam.range; rw [hg]; simp only; rw [if_pos (by omega)]
  have hnd := need_used hf hg a n
  unfold Fam.need at hnd
  have hN : f.needV nm a n = ((used (keepV f.cnt u.l a) n : Int), 0) := by unfold Fam.needV; rw [hrg]; simp only [if_true]; rw [hnd]
  have hcl : (f.claimV nm).1 = f.claim u := by unfold Fam.claimV; rw [hg]
  unfold Fam.planE Fam.canWrite
  rw [hg, hN, hcl]
  simp only [Option.isSome_some, if_true]
  rw [if_neg (by omega)]
theorem used_zero {kp : Nat → Option Int} : ∀ {n : Nat}, (∀ i, i < n → (kp i).isSome = true) → used kp n = 0
  | 0, _ => rfl
  | n + 1, h => by
    have := used_zero (kp := kp) (n := n) fun i hi => h i (by omega)
    have hn := h n (by omega)
    simp only [used, this]
    cases hk : kp n with
    | none => rw [hk] at hn; cases hn
    | some s => simp
theorem claim_nonneg (f : Fam) (u : Vol) : 0 ≤ f.claim u := by unfold Fam.claim; omega
theorem Wrs.at {w : World} {A : Option Addr} {n cap : Nat} {l : List Wr} (h : Wrs w (.slice A n cap) l) {i : Nat} {x : Wr} (hx : l[i]? = some x) : ∃ b off, A = some ⟨b, off, none⟩ ∧ w.cell? ⟨b, off + i * 9, none⟩ = some (.int .i64 x.slot) := by
  obtain ⟨A', cap', e, h1⟩ := h.slot
  injection e with e1 e2 e3
  subst e1
  exact h1 i x hx
/-- what is read stays behind Apply: the mapper's block alone has turned. -/
theorem Rows.app {w w' : World} {p k n : Nat} {f : Fam} {v : Value} {cs : List Value} (hM : MapR w p f) (hg : GrwX (atP p) w w') (hC : ∀ u ∈ cs, (∀ A n c, u ≠ .slice A n c) ∧ ∀ m, u ≠ .map m) (h : Rows w k v n cs) : Rows w' k v n cs := by
  obtain ⟨s, mp, hb, hF⟩ := hM
  obtain ⟨A, cap, rfl⟩ := hF.sl
  refine ⟨h.1, h.2.imp id ?_⟩
  rintro ⟨b, off, cap', hv, h1, h2, h3⟩
  refine ⟨b, off, cap', hv, h1, h2, fun j u hu => ?_⟩
  have hc := h3 j u hu
  refine GrwX.cell hc (fun e => ?_) _ hg
  have e' : b = p := e
  subst e'
  obtain ⟨c1, c2⟩ := hC u (List.mem_of_getElem? hu)
  rw [blk_cell hb] at hc
  rcases hj : off + j with _ | _ | q
  · rw [hj] at hc; simp at hc; exact c1 _ _ _ hc.symm
  · rw [hj] at hc; simp at hc; exact c2 _ hc.symm
  · rw [hj] at hc; simp at hc
theorem wrC_plain (l : List Wr) : ∀ u ∈ flat wrC l, (∀ A n c, u ≠ .slice A n c) ∧ ∀ m, u ≠ .map m := by
  intro u hu
  obtain ⟨cs, hcs, e⟩ := List.mem_flatten.1 hu
  obtain ⟨z, _, rfl⟩ := List.mem_map.1 hcs
  simp [wrC, blkC] at e
  rcases e with rfl | rfl | rfl | rfl | rfl | rfl | rfl | rfl | rfl <;> exact ⟨fun _ _ _ => by simp, fun _ => by simp⟩
/-- a planned write, applied. -/
theorem apply_plan {p : Nat} {f : Fam} {nm : List UInt8} {u : Vol} {a : Int} {n : Nat} {fr : List Int} {v : Value} {W0 : World} (h : MapR W0 p f) (hf : f.WF) (hnm : nm.length ≤ 16) (hn0 : nm ≠ []) (hg : getV f.vols nm = some u) (hfr : FreshL f.slots f.cnt fr) (hu : used (keepV f.cnt u.l a) n ≤ fr.length)
    (h0 : 0 ≤ a) (h1 : a + n ≤ u.n) (hn : n ≤ 16) (hroom : 0 ≤ f.room) (hcan : (used (keepV f.cnt u.l a) n : Int) ≤ f.claim u + f.room) (hv : Bys W0 v (noteW nm (joinL (chgsP (keepV f.cnt u.l a) fr a n)))) :
    Calls Tryz.prog 20 #[ptr p, v] W0 fun e w' => e = .returned (.int .i64 0) ∧ MapR w' p (f.putX u (planX f u a n fr)) ∧ GrwX (atP p) W0 w' := by
  have hx := plan_ok hf hg hfr hu h0 h1
  have hl : (planX f u a n fr).length ≤ 16 := by have := plan_few f u a n fr; have := used_bound (keepV f.cnt u.l a) n; omega
  have hr := plan_room hf hg hfr hu h0 h1 hroom hcan
  refine (apply_write h hf hnm hn0 hg hx hl hv).mono ?_
  rintro e w' ⟨r1, r2, r3⟩
  unfold applyE at r1
  unfold applyF at r2
  simp only at r1 r2
  rw [if_neg (by omega)] at r1 r2
  exact ⟨r1, r2, r3⟩
theorem wrP_get {kp : Nat → Option Int} {fr : List Int} {ds : List Blk} {n i : Nat} (h : i < n) : (wrP kp fr ds n)[i]? = some ⟨slotP kp fr i, ds.getD i default⟩ := by simp [wrP, h]
set_option maxRecDepth 100000 in
set_option maxHeartbeats 4000000 in
theorem awake_any {W0 : World} : Calls Tryz.prog 12 #[] W0 fun e w' => e = .returned (.bool true) ∧ Grw W0 w' := by
  have c1 := (mnew_any (n := 10) (W0 := W0)).mono (R' := fun e w' => ∃ p, e = .returned (.tuple #[ptr p, .int .i64 0]) ∧ W0.heap.size ≤ p ∧ MapR w' p fam10 ∧ Grw W0 w') (by
    rintro e w' ⟨g, h⟩
    rw [if_pos (by omega)] at h
    obtain ⟨p, h1, h2, h3⟩ := h
    exact ⟨p, h1, h2, h3, g⟩)
  have c2 := fun (W : World) (p : Nat) (hM : MapR W p fam10) => (mcreate_any (nm := nmA) (n := 8) (r := 0) hM fam10_WF (by decide) (by decide) (by omega) (by omega)).mono (R' := fun e w' => ∃ v, e = .returned (.tuple #[v, .int .i64 0]) ∧ Bys w' v (noteC nmA 8 0) ∧ Grw W w') (by
    rw [fam10_createE]
    rintro e w' ⟨v, h1, h2, h3⟩
    simp only [if_true] at h2
    exact ⟨v, h1, h2, h3⟩)
  have c3 := fun (W : World) (p : Nat) (v : Value) (hM : MapR W p fam10) (hv : Bys W v (noteC nmA 8 0)) => (apply_create (nm := nmA) (n := 8) (r := 0) hM fam10_WF (by decide) (by decide) (by omega) (by omega) hv).mono (R' := fun e w' => e = .returned (.int .i64 0) ∧ MapR w' p fam10a ∧ GrwX (atP p) W w') (by
    rw [fam10_create]
    rintro e w' ⟨h1, h2, h3⟩
    unfold applyE applyF at *
    simp only [fam10a_room] at h1 h2
    exact ⟨h1, h2, h3⟩)
  obtain ⟨LN, hLN⟩ : ∃ x, (noteC nmA 8 0).length = x := ⟨_, rfl⟩
  have hwf1 : fam10a.WF := create_WF fam10_WF fam10_create
  go_enter Tryz.func12, Tryz.ntmps12
  go_upto_region 6 with (first
    | (go_at_call 13; refine c1.mono ?_; clear c1; rintro e w1 ⟨p, rfl, hp, hM1, g1⟩)
    | (go_at_call 19; refine (c2 _ p hM1).mono ?_; clear c2; rintro e w2 ⟨v2, rfl, hv2, g2⟩)
    | (go_at_call 20; refine (c3 _ p _ (hM1.grw g2) hv2).mono ?_; clear c3; rintro e w3 ⟨rfl, hM3, g3⟩))
  have hmk3 : ∀ w : World, (Instr.makeSlice 38 (.int .i64 3) (.int .i64 3)).run Tryz.prog w = .ok (.slice (some ⟨w.heap.size, 0, none⟩) 3 3) (mkW w 3) := mk_run 3 (by omega) .i64 .i64
  have hmk2 : ∀ w : World, (Instr.makeSlice 38 (.int .i64 2) (.int .i64 2)).run Tryz.prog w = .ok (.slice (some ⟨w.heap.size, 0, none⟩) 2 2) (mkW w 2) := mk_run 2 (by omega) .i64 .i64
  obtain ⟨u1, hg1, -, -, -, hn1, hcan1, d1⟩ := plan_ok_any (nm := nmA) (a := 2) (ds := List.replicate 3 zeroB) (hM3.grw (mk_grw w3 3)) hwf1 (by decide) (by decide) (by rw [fam10a_room]; decide) fam10a_planE (mk_blks w3 3 (by omega))
  obtain rfl : u1 = ⟨nmA, 8, 0, []⟩ := (Option.some.inj hg1).symm
  simp only [List.length_replicate] at d1 hcan1
  unfold RetPlK at d1
  simp only [List.length_replicate] at d1
  have gM := mk_grw w3 3
  go_upto_region 7 with (go_at_call 21; refine d1.mono ?_; clear d1; rintro e w4 ⟨fr1, vw, vb, hfr1, hus1, rfl, hw4, hb4, g4⟩)
  have hM4 := (hM3.grw gM).grw g4
  have d2 := apply_plan (a := 2) (n := 3) hM4 hwf1 (by decide) (by decide) hg1 hfr1 hus1 (by omega) (by decide) (by omega) (by rw [fam10a_room]; decide) hcan1 hb4
  go_upto_region 8 with (go_at_call 20; refine d2.mono ?_; clear d2; rintro e w5 ⟨rfl, hM5, g5⟩)
  have hw5 : Wrs w5 vw _ := Rows.app hM4 g5 (wrC_plain _) hw4
  have hx1 := plan_ok (a := 2) (n := 3) hwf1 hg1 hfr1 hus1 (by omega) (by decide)
  have hwf2 := putX_WF hwf1 hg1 hx1
  have hroom2 := plan_room (a := 2) (n := 3) hwf1 hg1 hfr1 hus1 (by omega) (by decide) (by rw [fam10a_room]; decide) hcan1
  have hg2 := putX_get (xs := planX fam10a ⟨nmA, 8, 0, []⟩ 2 3 fr1) hwf1 hg1
  obtain ⟨S1, hS1, hq1, hc1⟩ := second_keep (a := 2) (n := 3) (i := 1) hwf1 hg1 hfr1 hus1 (by omega) (by decide) (by omega)
  obtain ⟨S2, hS2, hq2, hc2⟩ := second_keep (a := 2) (n := 3) (i := 2) hwf1 hg1 hfr1 hus1 (by omega) (by decide) (by omega)
  generalize putLs (⟨nmA, 8, 0, []⟩ : Vol).l (planX fam10a ⟨nmA, 8, 0, []⟩ 2 3 fr1) = l2 at hg2 hq1 hq2
  generalize fam10a.putX ⟨nmA, 8, 0, []⟩ (planX fam10a ⟨nmA, 8, 0, []⟩ 2 3 fr1) = f2 at hwf2 hroom2 hg2 hc1 hc2 hM5
  have hk0 : keepV f2.cnt l2 3 0 = some S1 := by unfold keepV; rw [show (3 : Int) + (0 : Nat) = 2 + (1 : Nat) by omega, hq1]; simp only [hc1, if_true]
  have hk1 : keepV f2.cnt l2 3 1 = some S2 := by unfold keepV; rw [show (3 : Int) + (1 : Nat) = 2 + (2 : Nat) by omega, hq2]; simp only [hc2, if_true]
  have hus0 : used (keepV f2.cnt l2 3) 2 = 0 := used_zero fun i hi => by
    rcases i with _ | _ | i
    · rw [hk0]; rfl
    · rw [hk1]; rfl
    · omega
  have hE2 : f2.planE nmA 3 2 = 0 := by
    rw [planE_val hwf2 hg2 (by omega) (by omega) (by omega) (show (3 : Int) + (2 : Nat) ≤ 8 by omega)]
    unfold enoughI
    rw [if_neg]
    have := claim_nonneg f2 ⟨nmA, 8, 0, l2⟩
    simp only [hus0]
    omega
  obtain ⟨u2, hg2', -, -, -, -, -, d3⟩ := plan_ok_any (nm := nmA) (a := 3) (ds := List.replicate 2 zeroB) (hM5.grw (mk_grw w5 2)) hwf2 (by decide) (by decide) hroom2 hE2 (mk_blks w5 2 (by omega))
  obtain rfl : u2 = ⟨nmA, 8, 0, l2⟩ := (Option.some.inj (hg2'.symm.trans hg2))
  unfold RetPlK at d3
  simp only [List.length_replicate] at d3
  have gM5 := mk_grw w5 2
  have hb4l := noteW_len (nm := nmA) (by decide) (fun x hx => okX_one hwf1 hg1 (hx1 x hx)) (by have := plan_few fam10a ⟨nmA, 8, 0, []⟩ 2 3 fr1; have := used_bound (keepV fam10a.cnt (⟨nmA, 8, 0, []⟩ : Vol).l 2) 3; omega)
  have hx1l : (planX fam10a ⟨nmA, 8, 0, []⟩ 2 3 fr1).length ≤ 3 := by have := plan_few fam10a ⟨nmA, 8, 0, []⟩ 2 3 fr1; have := used_bound (keepV fam10a.cnt (⟨nmA, 8, 0, []⟩ : Vol).l 2) 3; omega
  obtain ⟨Ab, cb, rfl, -, -, -⟩ := hb4.shape
  obtain ⟨A1, cp1, rfl, -⟩ := hw4.slot
  rw [wrP_len] at hw5 ⊢
  go_upto_region 9 with (go_at_call 21; refine d3.mono ?_; clear d3; rintro e w6 ⟨fr2, vx, vc, hfr2, hus2, rfl, hw6, hb6, g6⟩; obtain ⟨A2, cp2, rfl, -⟩ := hw6.slot)
  rw [wrP_len] at hw6 ⊢
  have g56 := gM5.then g6
  have hw7 := hw5.grw g56
  obtain ⟨bw, ow, rfl, y1⟩ := hw7.at (i := 1) (wrP_get (by omega))
  obtain ⟨bw', ow', e1, y2⟩ := hw7.at (i := 2) (wrP_get (by omega))
  injection e1 with e1
  injection e1 with e1 e2 e3
  subst e1; subst e2
  obtain ⟨bx, ox, rfl, y3⟩ := hw6.at (i := 0) (wrP_get (by omega))
  obtain ⟨bx', ox', e4, y4⟩ := hw6.at (i := 1) (wrP_get (by omega))
  injection e4 with e4
  injection e4 with e4 e5 e6
  subst e4; subst e5
  have hs3 : slotP (keepV f2.cnt l2 3) fr2 0 = S1 := by simp [slotP, hk0]
  have hs4 : slotP (keepV f2.cnt l2 3) fr2 1 = S2 := by simp [slotP, hk1]
  simp only [hS1, hS2, hs3, hs4] at y1 y2 y3 y4
  have hM6 := hM5.grw g56
  have d4 := fun (W : World) (hgW : Grw w6 W) => mstate_any (hM6.grw hgW) hwf2
  replace y1 := Grw.cell (show w6.cell? ⟨bw, ow + 9, none⟩ = some (.int .i64 S1) from y1)
  replace y2 := Grw.cell (show w6.cell? ⟨bw, ow + 18, none⟩ = some (.int .i64 S2) from y2)
  replace y3 := Grw.cell (show w6.cell? ⟨bx, ox, none⟩ = some (.int .i64 S1) from y3)
  replace y4 := Grw.cell (show w6.cell? ⟨bx, ox + 9, none⟩ = some (.int .i64 S2) from y4)
  have gs := Grw.self w6
  have hLb : (noteW nmA (joinL (chgsP (keepV fam10a.cnt [] 2) fr1 2 3))).length ≤ 48 := by
    have : (noteW nmA (joinL (chgsP (keepV fam10a.cnt [] 2) fr1 2 3))).length ≤ 21 + 9 * (joinL (chgsP (keepV fam10a.cnt [] 2) fr1 2 3)).length := hb4l
    have h3 : (joinL (chgsP (keepV fam10a.cnt [] 2) fr1 2 3)).length ≤ 3 := hx1l
    omega
  obtain ⟨LB, hLB⟩ : ∃ x, (noteW nmA (joinL (chgsP (keepV fam10a.cnt [] 2) fr1 2 3))).length = x := ⟨_, rfl⟩
  rw [hLB] at hLb ⊢
  have hLbd : decide ((LB : Int) ≤ 256) = true := by simp; omega
  have hFl : 1 ≤ (encF f2).length := by unfold encF encN; rw [List.length_append]; have := encU_pos (f2.vols.length : Int).toNat; omega
  have gAll : Grw W0 w6 := by
    have e1 : Grw W0 w3 := GrwX.grw g3 (g1.then g2) (fun i hi => by unfold atP at hi; omega)
    have e2 : Grw W0 w5 := GrwX.grw g5 (e1.then (gM.then g4)) (fun i hi => by unfold atP at hi; omega)
    exact e2.then g56
  obtain ⟨EF, hEF⟩ : ∃ x, encF f2 = x := ⟨_, rfl⟩
  rw [hEF] at d4 hFl
  clear hb4l hx1l hS1 hS2 hs3 hs4 hk0 hk1 hus0 hE2 hq1 hq2 hc1 hc2 hw7 hw6 hw5 hb4 hb6 hfr1 hfr2 hus1 hus2 hcan1 hn1 hx1 hLB hEF hmk2 hmk3 hg1 hg2' hLN
  refine gw_region [(0, true), (1, true), (2, true), (3, true), (4, true), (5, true), (6, true), (7, true), (8, true), (9, true), (10, true), (11, true), (12, true), (13, true), (14, true), (15, true), (16, true), (17, true), (18, true), (19, true), (20, true), (21, true), (22, true), (23, true), (24, true), (25, true), (26, true), (27, true), (28, true), (29, true), (30, true), (31, true), (32, true), (33, true), (34, true), (35, true), (36, true), (37, true), (38, true), (39, true), (40, true), (41, true), (42, true), (43, true), (44, true), (45, true), (46, true), (47, true), (48, true), (49, true), (50, true), (51, true), (52, true), (53, true), (54, true), (55, true), (56, true), (57, false), (58, true), (59, true), (60, true), (61, true)] (by kernel_rfl) (by kernel_rfl) (fun c a d v w1 h => by cases d <;> exact h) ?_
  intro A hA
  iterate 3 (apply gw_q hA rfl rfl; intro pp; go_simp; rfl; go_simp)
  iterate 2 (apply gw_qg hA rfl (by first | (rw [hA.out]; done) | (rw [hA.out]; rfl)); intro pp; go_simp; rfl; go_simp)
  iterate 2 (apply gw_q hA rfl rfl; intro pp; go_simp; rfl; go_simp)
  iterate 2 (apply gw_qg hA rfl (by first | (rw [hA.out]; done) | (rw [hA.out]; rfl)); intro pp; go_simp; rfl; go_simp)
  iterate 2 (apply gw_q hA rfl rfl; intro pp; go_simp; rfl; go_simp)
  iterate 2 (apply gw_qg hA rfl (by first | (rw [hA.out]; done) | (rw [hA.out]; rfl)); intro pp; go_simp; rfl; go_simp)
  iterate 2 (apply gw_q hA rfl rfl; intro pp; go_simp; rfl; go_simp)
  iterate 2 (apply gw_qg hA rfl (by first | (rw [hA.out]; done) | (rw [hA.out]; rfl)); intro pp; go_simp; rfl; go_simp)
  iterate 2 (apply gw_q hA rfl rfl; intro pp; go_simp; rfl; go_simp)
  iterate 3 (apply gw_qg hA rfl (by first | (rw [hA.out]; done) | (rw [hA.out]; rfl)); intro pp; go_simp; rfl; go_simp)
  iterate 2 (apply gw_q hA rfl rfl; intro pp; go_simp; rfl; go_simp)
  iterate 3 (apply gw_qg hA rfl (by first | (rw [hA.out]; done) | (rw [hA.out]; rfl)); intro pp; go_simp; rfl; go_simp)
  iterate 2 (apply gw_q hA rfl rfl; intro pp; go_simp; rfl; go_simp)
  iterate 9 (apply gw_qg hA rfl (by first | (rw [hA.out]; done) | (rw [hA.out]; rfl)); intro pp; go_simp; rfl; go_simp)
  iterate 2 (apply gw_q hA rfl rfl; intro pp; go_simp; rfl; go_simp)
  iterate 9 (apply gw_qg hA rfl (by first | (rw [hA.out]; done) | (rw [hA.out]; rfl)); intro pp; go_simp; rfl; go_simp)
  iterate 2 (apply gw_q hA rfl rfl; intro pp; go_simp; rfl; go_simp)
  iterate 3 (apply gw_qg hA rfl (by first | (rw [hA.out]; done) | (rw [hA.out]; rfl)); intro pp; go_simp; rfl; go_simp)
  iterate 2 (apply gw_q hA rfl rfl; intro pp; go_simp; rfl; go_simp)
  iterate 1 (apply gw_qg hA rfl (by first | (rw [hA.out]; done) | (rw [hA.out]; rfl)); intro pp; go_simp; rfl; go_simp)
  refine gw_eg hA rfl (by first | (rw [hA.out]; done) | (rw [hA.out]; rfl)) (fun K hK => ?_)
  go_wp2_with (go_at_call 17; refine (d4 _ (Grw.drw w6)).mono ?_; clear d4; rintro e w7 ⟨v7, rfl, hv7, g7⟩; obtain ⟨A7, cp7, rfl, -, -, -⟩ := hv7.shape)
  have k7 := (Grw.drw w6).then g7
  refine ⟨k7, ?_⟩
  have hFd : decide (0 < (EF.length : Int)) = true := by simp; omega
  have hFd2 : EF ≠ [] := fun e => by rw [e] at hFl; simp at hFl
  iterate 2 (apply gw_qg hA rfl (by first | (rw [hA.out]; done) | (rw [hA.out]; rfl)); intro pp; go_simp; rfl; go_simp)
  iterate 2 (apply gw_q hA rfl rfl; intro pp; go_simp; rfl; go_simp)
  refine pi_nil ?_
  go_wp2
  go_ret
  have h9 : decide (0 < EF.length) = true := by rw [decide_eq_true_eq]; omega
  refine ⟨?_, gAll.then k7⟩
  show Ending.returned (.bool (decide (0 < EF.length))) = _
  rw [h9]
end Go.Proofs.YtbfdnfkflnajlaaGreat

/-! MapperNew: what it calls beyond the mapper's own methods. -/
namespace Go.Proofs.YtbfdnfkflnajlaaGreat
open Go.RowKit Go.Shelf
open Ext hiding One

/-- a family of the reference, by value. -/
abbrev rfamV (n : Int) (sl : Value) : Value := .agg #[.int .i64 n, sl]
set_option maxRecDepth 100000 in
set_option maxHeartbeats 1000000 in
theorem rnew_any {n : Int} {W0 : World} (h0 : 0 ≤ n) (h1 : n ≤ 65536) :
    Calls Tryz.prog 14 #[.int .i64 n] W0 fun e w' => e = .returned (.tuple #[rfamV n (.slice none 0 0), .int .i64 0]) ∧ Grw W0 w' := by
  have hg := Grw.alloc W0 (.cells #[.int .i64 n, .slice none 0 0] 30)
  have h2 : ¬ n < 0 := by omega
  have h3 : ¬ 65536 < n := by omega
  go_enter Tryz.func14, Tryz.ntmps14
  go_wp2
  refine bodyPost_ret (v := .tuple #[rfamV n (.slice none 0 0), .int .i64 0]) (by simp [results, Tryz.results14, go_sem]) rfl ⟨rfl, ?_⟩
  first | exact hg | (exact ((Grw.alloc _ _).setOwn (Nat.le_refl _) _).setOwn (Nat.le_refl _) _)
set_option maxRecDepth 100000 in
set_option maxHeartbeats 2000000 in
theorem equal_empty {v : Value} {N : Nat} {W0 : World} (h : FamR W0 v ⟨N, []⟩) (hN : N ≤ 65536) :
    Calls Tryz.prog 67 #[v, rfamV N (.slice none 0 0)] W0 fun e w' => e = .returned (.bool true) ∧ Grw W0 w' := by
  have hwf : (⟨N, []⟩ : Fam).WF := ⟨hN, by simp, List.Pairwise.nil, fun v hv => by cases hv⟩
  have h0 := h
  obtain ⟨s, mp, rfl, hs, hm⟩ := h
  obtain ⟨A, cap, rfl, -, -, -⟩ := hs.shape
  generalize (⟨N, []⟩ : Fam).cs.length = CL at *
  have hW := (Grw.alloc W0 (.cells #[.slice A CL cap, .map mp] 76)).alc (.cells #[.int .i64 N, .slice none 0 0] 30)
  have b2 : ((W0.alloc (.cells #[.slice A CL cap, .map mp] 76)).alloc (.cells #[.int .i64 N, .slice none 0 0] 30)).heap[W0.heap.size]? = some (.cells #[.slice A CL cap, .map mp] 76 (0, 0)) := (Grw.alloc _ _).blk (alloc_blk _ _)
  have b3 := alloc2_blk W0 (.cells #[.slice A CL cap, .map mp] 76) (.cells #[.int .i64 N, .slice none 0 0] 30)
  have c1 := fun (W : World) (hg : Grw W0 W) => names_any (h0.grw hg) hwf
  have c2 := fun (W : World) (hg : Grw W0 W) => slots_fam (h0.grw hg)
  clear hs hm h0 hwf
  go_enter Tryz.func67, Tryz.ntmps67
  generalize hZ : (W0.alloc (.cells #[.slice A CL cap, .map mp] 76)).alloc (.cells #[.int .i64 N, .slice none 0 0] 30) = W at hW b2 b3 ⊢
  have e0 := Grw.cells b2 0
  have e1 := Grw.cells b2 1
  have e2 := Grw.cells b3 0
  have e3 := Grw.cells b3 1
  simp only [List.getElem?_toArray, List.getElem?_cons_succ, List.getElem?_cons_zero] at e0 e1 e2 e3
  have gs := Grw.self W
  go_upto_region 2 with (go_at_call 40; refine (c1 _ hW).mono ?_; clear c1; rintro e w1 ⟨v1, rfl, hv1, g1⟩; rw [show (⟨N, []⟩ : Fam).names = [] from rfl] at hv1; obtain ⟨A1, cap1, rfl, -, -, -⟩ := hv1.shape; rw [List.length_nil])
  replace e0 := fun (B : World) (hB : Grw w1 B) => e0 B (g1.then hB)
  replace e1 := fun (B : World) (hB : Grw w1 B) => e1 B (g1.then hB)
  replace e2 := fun (B : World) (hB : Grw w1 B) => e2 B (g1.then hB)
  replace e3 := fun (B : World) (hB : Grw w1 B) => e3 B (g1.then hB)
  replace gs := Grw.self w1
  have k0 := Grw.drw w1
  have hg1 := hW.then g1
  clear hZ b2 b3
  refine gw_region [(0, true), (2, true), (3, true), (1, false), (4, true), (5, true), (6, true), (7, true), (8, true), (9, true), (10, true), (11, true), (12, true)] (by kernel_rfl) (by kernel_rfl) (fun c a d v w1 h => by cases d <;> exact h) ?_
  intro A hA
  iterate 3 (apply gw_q hA rfl rfl; intro pp; go_simp; rfl; go_simp)
  refine gw_e hA rfl rfl (fun K hK => ?_)
  go_wp2_with (go_at_call 35; refine (c2 _ (hg1.then k0)).mono ?_; clear c2; rintro e w2 ⟨rfl, g2⟩)
  have k2 := k0.then g2
  refine ⟨k2, ?_⟩
  iterate 2 (apply gw_q hA rfl rfl; intro pp; go_simp; rfl; go_simp)
  iterate 6 (apply gw_qg hA rfl (by first | (rw [hA.out]; done) | (rw [hA.out]; rfl)); intro pp; go_simp; rfl; go_simp)
  iterate 1 (apply gw_q hA rfl rfl; intro pp; go_simp; rfl; go_simp)
  refine pi_nil ?_
  go_wp2
  go_loopg [6] 0 (fun g s6 wx => g = 0 ∧ s6 = .int .i64 0 ∧ wx = w2)
  case atStart => exact ⟨rfl, rfl, rfl⟩
  case round =>
    obtain ⟨rfl, rfl, rfl⟩ := hrel
    go_wp2
    go_ret
    exact ⟨rfl, hg1.then k2⟩
set_option maxRecDepth 100000 in
set_option maxHeartbeats 1000000 in
theorem same_empty {p N : Nat} {W0 : World} (h : MapR W0 p ⟨N, []⟩) (hN : N ≤ 65536) :
    Calls Tryz.prog 24 #[ptr p, rfamV N (.slice none 0 0)] W0 fun e w' => e = .returned (.bool true) ∧ Grw W0 w' := by
  have hW := Grw.alloc W0 (.cells #[.int .i64 N, .slice none 0 0] 30)
  have b2 := alloc_blk W0 (.cells #[.int .i64 N, .slice none 0 0] 30)
  have c1 := fun (W : World) (hg : Grw W0 W) => mfamily_any (h.grw hg)
  have c2 := fun (W : World) (v : Value) (hv : FamR W v ⟨N, []⟩) => equal_empty hv hN
  clear h
  go_enter Tryz.func24, Tryz.ntmps24
  generalize hZ : W0.alloc (.cells #[.int .i64 N, .slice none 0 0] 30) = W at hW b2 ⊢
  go_upto_region 1 with (fail)
  have e2 := Grw.cells b2 0
  have e3 := Grw.cells b2 1
  simp only [List.getElem?_toArray, List.getElem?_cons_succ, List.getElem?_cons_zero] at e2 e3
  have gs := Grw.self W
  have k0 := Grw.drw W
  refine gw_region [(0, true), (2, true), (1, false), (3, false), (4, true)] (by kernel_rfl) (by kernel_rfl) (fun c a d v w1 h => by cases d <;> exact h) ?_
  intro A hA
  iterate 2 (apply gw_q hA rfl rfl; intro pp; go_simp; rfl; go_simp)
  refine gw_e hA rfl rfl (fun K hK => ?_)
  go_wp2_with (go_at_call 32; refine (c1 _ (hW.then k0)).mono ?_; clear c1; rintro e w1 ⟨v1, rfl, hv1, g1⟩)
  have k1 := k0.then g1
  refine ⟨k1, ?_⟩
  refine gw_e hA rfl rfl (fun K hK => ?_)
  go_wp2_with (go_at_call 67; refine (c2 _ _ hv1).mono ?_; clear c2; rintro e w2 ⟨rfl, g2⟩)
  have k2 := k1.then g2
  refine ⟨k2, ?_⟩
  iterate 1 (apply gw_q hA rfl rfl; intro pp; go_simp; rfl; go_simp)
  refine pi_nil ?_
  go_wp2
  go_ret
  exact ⟨rfl, hW.then k2⟩
set_option maxRecDepth 100000 in
set_option maxHeartbeats 1000000 in
theorem load_bad {s : Value} {n : Int} {W0 : World} (hn : ¬ (0 ≤ n ∧ n ≤ 65536)) :
    Calls Tryz.prog 33 #[s, .int .i64 n] W0 fun e w' => e = .returned (.tuple #[.pointer none, .int .i64 1]) ∧ Grw W0 w' := by
  have c1 := fnew_any (n := n) (W0 := W0)
  rw [if_neg hn] at c1
  clear hn
  go_enter Tryz.func33, Tryz.ntmps33
  go_wp2_with (go_at_call 36; refine c1.mono ?_; clear c1; rintro e w1 ⟨s, mp, rfl, hf, g1⟩; obtain ⟨A, cap, rfl⟩ := hf.sl)
  refine bodyPost_ret (v := .tuple #[.pointer none, .int .i64 1]) (by simp [results, Tryz.results33, go_sem]) rfl ⟨rfl, g1.alc _⟩
theorem room_empty (N : Nat) : (⟨N, []⟩ : Fam).room = N := by
  have e : (⟨N, []⟩ : Fam).room = sumTo (fun _ => 1) N - 0 := by rfl
  rw [e]
  have : ∀ n : Nat, sumTo (fun _ => 1) n = n := by
    intro n
    induction n with
    | zero => rfl
    | succ n ih => simp only [sumTo, ih]; omega
  rw [this]; omega
end Go.Proofs.YtbfdnfkflnajlaaGreat

/-! MapperNew returns true for every number. -/
namespace Go.Proofs.YtbfdnfkflnajlaaGreat
open Go.RowKit Go.Shelf
open Ext hiding One

set_option maxRecDepth 100000 in
set_option maxHeartbeats 4000000 in
theorem law_new_any {n : Int} {W0 : World} : Calls Tryz.prog 11 #[.int .i64 n] W0 fun e w' => e = .returned (.bool true) ∧ Grw W0 w' := by
  have c1 := awake_any (W0 := W0)
  have c2 := fun (W : World) => nil_plan (s := strV [97]) (t := .slice none 0 0) (a := 0) (W0 := W)
  have c3 := fun (W : World) => nil_trim (s := strV [97]) (a := 0) (n := 1) (W0 := W)
  have c4 := fun (W : World) => nil_create (s := strV [97]) (a := 1) (n := 0) (W0 := W)
  have c5 := fun (W : World) => nil_clone (s := strV [97]) (t := strV [98]) (W0 := W)
  have c6 := fun (W : World) => nil_delete (s := strV [97]) (W0 := W)
  have c7 := fun (W : World) => nil_apply (s := .slice none 0 0) (W0 := W)
  have c8 := fun (W : World) => nil_state (W0 := W)
  have c9 := fun (W : World) => nil_family (W0 := W)
  have d1 := fun (W : World) => slots_fam (FamR.zero W)
  have d2 := fun (W : World) => nil_copy (W0 := W)
  have d3 := fun (W : World) => mnew_any (n := n) (W0 := W)
  by_cases hn : 0 ≤ n ∧ n ≤ 65536
  · simp only [if_pos hn] at d3
    obtain ⟨N, rfl⟩ : ∃ N : Nat, n = N := ⟨n.toNat, by omega⟩
    have hN : N ≤ 65536 := by omega
    simp only [Int.toNat_natCast] at d3
    have hz : fam0.slots = 0 := rfl
    rw [hz] at d1
    have d5 := fun (W : World) => rnew_any (n := 0) (W0 := W) (by omega) (by omega)
    have d6 := fun (W : World) (p : Nat) (h : MapR W p ⟨N, []⟩) => same_empty h hN
    have d7 := fun (W : World) (p : Nat) (h : MapR W p ⟨N, []⟩) => mfamily_any h
    have d8 := fun (W : World) (v : Value) (h : FamR W v ⟨N, []⟩) => room_any h ⟨hN, by simp, List.Pairwise.nil, fun v hv => by cases hv⟩
    simp only [room_empty] at d8
    have h1 : ¬ (N : Int) < 0 := by omega
    have h2 : ¬ 65536 < (N : Int) := by omega
    clear hn
    go_enter Tryz.func11, Tryz.ntmps11
    go_upto_region 17 with (first
      | (go_at_call 12; refine c1.mono ?_; clear c1; rintro e w1 ⟨rfl, g1⟩)
      | (go_at_call 21; refine (c2 _).mono ?_; clear c2; rintro e w2 ⟨rfl, g2⟩)
      | (go_at_call 22; refine (c3 _).mono ?_; clear c3; rintro e w3 ⟨rfl, g3⟩)
      | (go_at_call 19; refine (c4 _).mono ?_; clear c4; rintro e w4 ⟨rfl, g4⟩)
      | (go_at_call 34; refine (c5 _).mono ?_; clear c5; rintro e w5 ⟨rfl, g5⟩)
      | (go_at_call 23; refine (c6 _).mono ?_; clear c6; rintro e w6 ⟨rfl, g6⟩)
      | (go_at_call 20; refine (c7 _).mono ?_; clear c7; rintro e w7 ⟨rfl, g7⟩)
      | (go_at_call 17; refine (c8 _).mono ?_; clear c8; rintro e w8 ⟨rfl, g8⟩)
      | (go_at_call 32; refine (c9 _).mono ?_; clear c9; rintro e w9 ⟨rfl, g9⟩)
      | (go_at_call 35; refine (d1 _).mono ?_; clear d1; rintro e v1 ⟨rfl, k1⟩)
      | (go_at_call 25; refine (d2 _).mono ?_; clear d2; rintro e v2 ⟨rfl, k2⟩)
      | (go_at_call 13; refine (d3 _).mono ?_; clear d3; rintro e v3 ⟨k3, p, rfl, hp, hM⟩)
      | (go_at_call 14; refine (d5 _).mono ?_; clear d5; rintro e v5 ⟨rfl, k5⟩))
    have hM5 := hM.grw (k5.alc (.cells #[.int .i64 N, .slice none 0 0] 30))
    go_wp2_with (first
      | (go_at_call 24; refine (d6 _ p hM5).mono ?_; clear d6; rintro e v6 ⟨rfl, k6⟩)
      | (go_at_call 32; refine (d7 _ p (hM5.grw k6)).mono ?_; clear d7; rintro e v7 ⟨vf, rfl, hF, k7⟩)
      | (go_at_call 31; refine (d8 _ _ hF).mono ?_; clear d8; rintro e v8 ⟨rfl, k8⟩))
    go_ret
    exact ⟨rfl, (((((((((((((((g1.then g2).then g3).then g4).then g5).then g6).then g7).then g8).then g9).then k1).then k2).then k3).then k5).alc _).then k6).then k7).then k8⟩
  · simp only [if_neg hn] at d3
    have d4 := fun (W : World) => load_bad (s := .slice none 0 0) (W0 := W) hn
    have hz : fam0.slots = 0 := rfl
    rw [hz] at d1
    have hn2 : (decide (n < 0) || decide (65536 < n)) = true := by simp; omega
    clear hn
    rcases (by simp at hn2; omega : n < 0 ∨ (¬ n < 0 ∧ 65536 < n)) with h1 | ⟨h1, h2⟩
    all_goals
      clear hn2
      go_enter Tryz.func11, Tryz.ntmps11
      go_wp2_with (first
      | (go_at_call 12; refine c1.mono ?_; clear c1; rintro e w1 ⟨rfl, g1⟩)
      | (go_at_call 21; refine (c2 _).mono ?_; clear c2; rintro e w2 ⟨rfl, g2⟩)
      | (go_at_call 22; refine (c3 _).mono ?_; clear c3; rintro e w3 ⟨rfl, g3⟩)
      | (go_at_call 19; refine (c4 _).mono ?_; clear c4; rintro e w4 ⟨rfl, g4⟩)
      | (go_at_call 34; refine (c5 _).mono ?_; clear c5; rintro e w5 ⟨rfl, g5⟩)
      | (go_at_call 23; refine (c6 _).mono ?_; clear c6; rintro e w6 ⟨rfl, g6⟩)
      | (go_at_call 20; refine (c7 _).mono ?_; clear c7; rintro e w7 ⟨rfl, g7⟩)
      | (go_at_call 17; refine (c8 _).mono ?_; clear c8; rintro e w8 ⟨rfl, g8⟩)
      | (go_at_call 32; refine (c9 _).mono ?_; clear c9; rintro e w9 ⟨rfl, g9⟩)
      | (go_at_call 35; refine (d1 _).mono ?_; clear d1; rintro e v1 ⟨rfl, k1⟩)
      | (go_at_call 25; refine (d2 _).mono ?_; clear d2; rintro e v2 ⟨rfl, k2⟩)
      | (go_at_call 13; refine (d3 _).mono ?_; clear d3; rintro e v3 ⟨k3, rfl⟩)
      | (go_at_call 33; refine (d4 _).mono ?_; clear d4; rintro e v4 ⟨rfl, k4⟩))
      go_ret
      exact ⟨rfl, (((((((((((g1.then g2).then g3).then g4).then g5).then g6).then g7).then g8).then g9).then k1).then k2).then k3).then k4⟩
end Go.Proofs.YtbfdnfkflnajlaaGreat
