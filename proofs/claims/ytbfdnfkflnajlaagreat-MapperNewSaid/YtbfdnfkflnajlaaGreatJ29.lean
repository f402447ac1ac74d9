/-
  mapper: Plan of a write that is permitted.
-/
import Derived.Test.YtbfdnfkflnajlaaGreatJ08
import Derived.Test.YtbfdnfkflnajlaaGreatJ28
set_option linter.unusedVariables false
set_option linter.unusedSimpArgs false
/-! mapper: Plan of a write that is permitted. -/
namespace Go.Proofs.YtbfdnfkflnajlaaGreat
open Go.RowKit Go.Shelf
open Ext hiding One

set_option maxRecDepth 100000 in
set_option maxHeartbeats 4000000 in
theorem plan_yes {p : Nat} {f : Fam} {nm : List UInt8} {u : Vol} {a : Int} {ds : List Blk} {v : Value} {W0 : World} (h : MapR W0 p f) (hf : f.WF) (hnm : nm.length ≤ 16) (hn0 : nm ≠ []) (hg : getV f.vols nm = some u) (hd0 : 1 ≤ ds.length) (hd1 : ds.length ≤ 16) (ha0 : 0 ≤ a) (ha1 : a + ds.length ≤ u.n)
    (hroom : 0 ≤ f.room) (hcan : (used (keepV f.cnt u.l a) ds.length : Int) ≤ f.claim u + f.room) (hneed : f.needV nm a ds.length = ((used (keepV f.cnt u.l a) ds.length : Int), 0)) (hcw : f.canWrite nm a ds.length = 0) (hD : Blks W0 v ds) :
    Calls Tryz.prog 21 #[ptr p, strV nm, .int .i64 a, v] W0 (RetPlK f.slots f.cnt (keepV f.cnt u.l a) nm a ds W0) := by
  obtain ⟨i0, hi, hz0, hz1, hz2⟩ := info_parts infoE
  obtain ⟨j0, hj, hy0, hy1, hy2⟩ := info_parts infoW
  have hM := h
  obtain ⟨s, mp, hb, hF⟩ := h
  obtain ⟨A, cap, rfl⟩ := hF.sl
  obtain ⟨AD, capD, rfl, hcD, hmD, hxD⟩ := hD.shape
  unfold maxLen at hmD
  have hu := hf.vols u (getV_some hg).1
  have hun := hu.2.2.1
  have hsl := hf.slots
  have hc1 := cnt_bound hf
  have c1 := info_any (nm := nm) hF hf (by omega)
  rw [infoV_some hg] at c1
  obtain ⟨r1, r2, r3⟩ := range_ok hf nm a ds.length
  have c2 := fun (W : World) (hg : Grw W0 W) => need_any (hF.grw hg) hf (nm := nm) (a := a) (n := ds.length) (by omega) (by unfold smallI; omega) (by unfold smallI; omega) r1 r2 r3
  have c3 := fun (W : World) (hg : Grw W0 W) => can_write_any (hF.grw hg) hf (nm := nm) (a := a) (n := ds.length) (by omega) (by unfold smallI; omega) (by unfold smallI; omega)
  rw [hneed] at c2
  rw [hcw] at c3
  have c4 := fun (W : World) (hg : Grw W0 W) => mfree_any (hM.grw hg) hf
  obtain ⟨h1, h2, h3⟩ := hint_ok hf hg a
  have c5 := fun (W : World) (hg : Grw W0 W) => mhint_any (a := a) (nm := nm) (hM.grw hg) hf (by omega) (by omega) h1
  obtain ⟨NE, hNE⟩ : ∃ x, used (keepV f.cnt u.l a) ds.length = x := ⟨_, rfl⟩
  obtain ⟨HI, hHI⟩ : ∃ x, f.hint nm a = x := ⟨_, rfl⟩
  rw [hNE] at c2 hcan
  rw [hHI] at c5 h2 h3
  have hfree := need_free hf hg hroom hcan
  have hNE16 : NE ≤ 16 := by have := used_bound (keepV f.cnt u.l a) ds.length; omega
  have c6 := fun (W : World) (sm : Value) (R : List Ext) (hm0 : Exts W sm R) (hR : inL1 65536 R) (hocc : ∀ i, occL R i = f.zero i) => (atake_any (N := f.slots) (n := NE) (hint := HI) hm0 (take_fresh (hint := HI) hf hR hocc (by omega : (0 : Int) ≤ NE) hfree).1 (take_fresh (hint := HI) hf hR hocc (by omega : (0 : Int) ≤ NE) hfree).2.1 (by omega) (take_fresh (hint := HI) hf hR hocc (by omega : (0 : Int) ≤ NE) hfree).2.2.1 ⟨h2, h3⟩ hsl).mono
    (R' := fun e w' => ∃ v A m cap t, e = .returned (.tuple #[v, amapV f.slots (.slice A m cap), .int .i64 0]) ∧ Exts w' v t ∧ Grw W w' ∧ inL1 65536 t ∧ sumL t = NE ∧ FreshL f.slots f.cnt (slotsL t)) (by
      rintro e w' ⟨v, A, m, cap, rfl, k1, k2⟩
      obtain ⟨_, _, _, t1, t2, t3⟩ := take_fresh (hint := HI) hf hR hocc (by omega : (0 : Int) ≤ NE) hfree
      exact ⟨v, A, m, cap, _, rfl, k1, k2, fun x hx => by have := t1 x hx; omega, t2, t3⟩)
  have c7 := fun (W : World) (v : Value) (t : List Ext) (ht : Exts W v t) (hi : inL1 65536 t) (hs : sumL t = NE) => mslots_any ht hi (by omega)
  have c8 := fun (W : World) (hgW : Grw W0 W) (k : Nat) (hk : k < ds.length) => (lookup_any (nm := nm) (a := a + k) (hF.grw hgW) hf (by omega) (by unfold smallI; omega)).mono (R' := RetLk (fnd u.l (a + k), 0) W) (by
    have e : f.lookup nm (a + k) = (fnd u.l (a + k), 0) := by unfold Fam.lookup; rw [hg]; simp only; rw [if_pos (by omega)]
    rw [e]
    exact fun e w h => h)
  have c9 := fun (W : World) (hgW : Grw W0 W) (k : Nat) (s : Int) (hs : fnd u.l (a + k) = some s) => (count_fam (k := s) (hF.grw hgW) (by obtain ⟨x, hx, e1, e2, e3⟩ := fnd_some hs; have := hu.2.2.2.2.2.2.2 x hx; unfold smallI; omega)).mono (R' := fun e w' => e = .returned (.int .i64 (f.cnt s.toNat)) ∧ Grw W w') (by
    have e : ofI f.cs s = f.cnt s.toNat := by
      obtain ⟨x, hx, e1, e2, e3⟩ := fnd_some hs
      have := hu.2.2.2.2.2.2.2 x hx
      unfold ofI
      rw [if_neg (by omega), Fam.cs_get (by omega)]; rfl
    rw [e]
    exact fun e w h => h)
  have hk1 : ∀ (k : Nat) (s : Int), fnd u.l (a + k) = some s → f.cnt s.toNat = 1 → keepV f.cnt u.l a k = some s := fun k s e1 e2 => by unfold keepV; rw [e1]; simp only [e2, if_true]
  have hk2 : ∀ (k : Nat) (s : Int), fnd u.l (a + k) = some s → f.cnt s.toNat ≠ 1 → keepV f.cnt u.l a k = none := fun k s e1 e2 => by unfold keepV; rw [e1]; simp only [e2, if_false]
  have hk3 : ∀ (k : Nat), fnd u.l (a + k) = none → keepV f.cnt u.l a k = none := fun k e1 => by unfold keepV; rw [e1]
  have hjv := fun (fr : List Int) (hf' : FreshL f.slots f.cnt fr) (hu' : used (keepV f.cnt u.l a) ds.length ≤ fr.length) => plan_VL (n := ds.length) hf hg hf' hu' ha0 ha1
  have hjn := fun (fr : List Int) (hf' : FreshL f.slots f.cnt fr) (hu' : used (keepV f.cnt u.l a) ds.length ≤ fr.length) => (plan_NF (n := ds.length) hf hg hf' hu' ha0 ha1).1
  have hjl := fun (fr : List Int) => plan_few f u a ds.length fr
  unfold planX at hjn hjl
  obtain ⟨KP, hKP⟩ : ∃ x, keepV f.cnt u.l a = x := ⟨_, rfl⟩
  simp only [hKP] at hk1 hk2 hk3 hjv hjn hjl hNE ⊢
  have hub := used_bound KP
  obtain ⟨Q, hQ⟩ : ∃ x : Nat → Option Int, (fun k : Nat => fnd u.l (a + k)) = x := ⟨_, rfl⟩
  have hQk : ∀ k : Nat, fnd u.l (a + k) = Q k := fun k => by rw [← hQ]
  simp only [hQk] at c8 c9 hk1 hk2 hk3
  obtain ⟨CN, hCN⟩ : ∃ x, f.cnt = x := ⟨_, rfl⟩
  simp only [hCN] at c9 hk1 hk2 c6 hjv hjn ⊢
  unfold RetInfo infoV at c1
  unfold RetII at c2
  unfold RetMk at c4
  simp only at c1 c2
  obtain ⟨EX, hEX⟩ : ∃ x, f.exc u.l = x := ⟨_, rfl⟩
  obtain ⟨SU, hSU⟩ : ∃ x, sumL u.l = x := ⟨_, rfl⟩
  obtain ⟨UN, hUN⟩ : ∃ x, u.n = x := ⟨_, rfl⟩
  obtain ⟨UR, hUR⟩ : ∃ x, u.res = x := ⟨_, rfl⟩
  obtain ⟨SL, hSL⟩ : ∃ x, f.slots = x := ⟨_, rfl⟩
  obtain ⟨FZ, hFZ⟩ : ∃ x, f.zero = x := ⟨_, rfl⟩
  rw [hEX, hSU, hUN, hUR] at c1
  simp only [hFZ, hSL] at c4 c6
  simp only [hSL] at c6 hjv hjn ⊢
  rw [hSL] at hsl h3
  rw [hUN] at ha1 hun
  have hn5 : ((ds.length : Int) == 0) = false := by rw [beq_eq_false_iff_ne]; omega
  have hn2 : ¬ (16 < (ds.length : Int)) := by omega
  generalize f.cs.length = CL at hb hF c1 c2 c3 c8 c9
  obtain ⟨u0, u1⟩ := map_load hb
  have hg0 := Grw.self W0
  replace u0 := Grw.cell u0
  replace u1 := Grw.cell u1
  replace c6 : Aside (∀ (W : World) (sm : Value) (R : List Ext) (hm0 : Exts W sm R) (hR : inL1 65536 R) (hocc : ∀ i, occL R i = FZ i), _) := c6
  replace c7 : Aside (∀ (W : World) (v : Value) (t : List Ext) (ht : Exts W v t) (hi : inL1 65536 t) (hs : sumL t = NE), _) := c7
  replace c8 : Aside (∀ (W : World) (hg : Grw W0 W) (k : Nat) (hk : k < ds.length), _) := c8
  replace c9 : Aside (∀ (W : World) (hg : Grw W0 W) (k : Nat) (s : Int) (hs : Q k = some s), _) := c9
  replace hk1 : Aside (∀ (k : Nat) (s : Int), Q k = some s → CN s.toNat = 1 → KP k = some s) := hk1
  replace hk2 : Aside (∀ (k : Nat) (s : Int), Q k = some s → CN s.toNat ≠ 1 → KP k = none) := hk2
  replace hk3 : Aside (∀ (k : Nat), Q k = none → KP k = none) := hk3
  replace hjv : Aside (∀ (fr : List Int) (hf' : FreshL SL CN fr) (hu' : used KP ds.length ≤ fr.length), _) := hjv
  replace hjn : Aside (∀ (fr : List Int) (hf' : FreshL SL CN fr) (hu' : used KP ds.length ≤ fr.length), _) := hjn
  replace hjl : Aside (∀ (fr : List Int), _) := hjl
  replace hub : Aside (∀ n, used KP n ≤ n) := hub
  replace hNE : Aside (used KP ds.length = NE) := hNE
  replace hxD : Aside (∀ i x, ds[i]? = some x → _) := hxD
  clear hM hF hf hg hu hc1 hKP hQ hQk hCN hEX hSU hUN hUR hFZ hSL hHI r1 r2 r3 h1 hfree hcan hroom hcw hneed hD hb
  go_enter Tryz.func21, Tryz.ntmps21
  go_upto_region 17 with (first
    | (go_at_call 42; refine c1.mono ?_; clear c1; rintro e w1 ⟨rfl, g1⟩; have g1a := g1.alc (.cells #[strV nm, .int .i64 UN, .int .i64 UR, .int .i64 SU, .int .i64 EX] 98))
    | (go_at_call 56; refine (c2 _ g1a).mono ?_; clear c2; rintro e w2 ⟨rfl, g2⟩; have g2a := g1a.then g2)
    | (go_at_call 57; refine (c3 _ g2a).mono ?_; clear c3; rintro e w3 ⟨rfl, g3⟩; have g3a := g2a.then g3)
    | (go_at_call 58; refine (c4 _ g3a).mono ?_; clear c4; rintro e w4 ⟨s4, R, rfl, hs4, g4, hR, hocc⟩; obtain ⟨A4, cap4, rfl, -, -, -⟩ := hs4.shape))
  have gA := (g3a.then g4).alc (.cells #[.int .i64 SL, .slice A4 R.length cap4] 129)
  have b16 := alloc_blk w4 (.cells #[.int .i64 SL, .slice A4 R.length cap4] 129)
  have hsW := hs4.grw (Grw.alloc w4 (.cells #[.int .i64 SL, .slice A4 R.length cap4] 129))
  obtain ⟨B16, hB16⟩ : ∃ x, w4.heap.size = x := ⟨_, rfl⟩
  rw [hB16] at b16 ⊢
  replace hocc : Aside (∀ (i : Nat), occL R i = FZ i) := hocc
  generalize w4.alloc (.cells #[.int .i64 SL, .slice A4 R.length cap4] 129) = W at gA b16 hsW ⊢
  clear g1 g1a g2 g2a g3 g3a g4 hs4 hB16
  go_cut [14, 17] from 87 (fun s14 s17 wx => s14 = .int .i64 0 ∧ ∃ t, Exts wx s17 t ∧ inL1 65536 t ∧ sumL t = NE ∧ FreshL SL CN (slotsL t) ∧ Grw W wx)
  case first =>
    have e0 := GrwX.cells (X := noX) b16 (fun h => h) 0
    have e1 := GrwX.cells (X := noX) b16 (fun h => h) 1
    simp only [List.getElem?_toArray, List.getElem?_cons_succ, List.getElem?_cons_zero] at e0 e1
    have gsx := GrwX.self noX W
    have k0 := Grw.drw W
    refine gv_region (noX) (.q 0 (.q 1 (.q 2 (.q 3 (.q 4 (.two 5 11 (.two 6 11 (.q 7 (.q 8 (.q 9 (.q 10 (.e 11 (.q 12 (.e 13 (.q 14 .nil)))))))) (.e 6 (.q 7 (.q 8 (.q 9 (.q 10 (.q 12 (.e 13 (.q 14 .nil))))))))) (.e 5 (.e 6 (.q 7 (.q 8 (.q 9 (.q 10 (.q 12 (.e 13 (.q 14 .nil))))))))))))))) (by kernel_rfl) (by kernel_rfl) (fun c a d v w1 h => by cases d <;> exact h) ?_
    intro A hA
    iterate 5 (apply gv_q hA rfl rfl; intro pp; go_simp; rfl; go_simp)
    refine gv_two hA rfl rfl rfl rfl (fun K hK => ?_) (fun K hK => ?_)
    · go_wp2_with (go_at_call 60; refine (c5 _ (gA.then k0)).mono ?_; clear c5; rintro e w1 ⟨rfl, g1⟩)
      have k1 := k0.then g1
      refine ⟨k1.x, ?_⟩
      refine gv_two hA rfl rfl rfl rfl (fun K hK => ?_) (fun K hK => ?_)
      · go_wp2_with (go_at_call 59; refine (c6.out _ _ R (hsW.grw k1) hR hocc.out).mono ?_; clear c6; rintro e w2 ⟨v2, A2, m2, cap2, t, rfl, ht, g2, t1, t2, t3⟩; obtain ⟨Av, capv, rfl, -, -, -⟩ := ht.shape)
        have k2 := k1.then g2
        refine ⟨k2.x, ?_⟩
        iterate 4 (apply gv_q hA rfl rfl; intro pp; go_simp; rfl; go_simp)
        refine gv_e hA rfl rfl (fun K hK => ?_)
        go_wp2
        have hk18 := k2.size
        have ka := k2.alc (.cells #[.int .i64 0, .slice none 0 0] 129)
        have b18 := alloc_blk w2 (.cells #[.int .i64 0, .slice none 0 0] 129)
        refine ⟨ka.x, ?_⟩
        replace ht := ht.grw (Grw.alloc w2 (.cells #[.int .i64 0, .slice none 0 0] 129))
        obtain ⟨N18, h18⟩ : ∃ x, w2.heap.size = x := ⟨_, rfl⟩
        rw [h18] at b18 hk18 ⊢
        generalize w2.alloc (.cells #[.int .i64 0, .slice none 0 0] 129) = w3 at ka b18 ht ⊢
        iterate 1 (apply gv_q hA rfl rfl; intro pp; go_simp; rfl; go_simp)
        obtain ⟨f0, f1, f2, f3⟩ := map_facts b18
        refine gv_e hA rfl rfl (fun K hK => ?_)
        go_wp2
        have kz := (ka.setOwn (b := N18) (o := 0) (by omega) (.int .i64 SL)).setOwn (b := N18) (o := 1) (by omega) (.slice A2 m2 cap2)
        refine ⟨kz.x, ?_⟩
        iterate 1 (apply gv_q hA rfl rfl; intro pp; go_simp; rfl; go_simp)
        refine o_nil ?_
        go_wp2
        go_meet
        case rel => exact ⟨rfl, t, Exts.setMap b18 (fun n => by simp) ht, t1, t2, t3, kz⟩
      · go_wp2
        have hk18 := k1.size
        have ka := k1.alc (.cells #[.int .i64 0, .slice none 0 0] 129)
        have b18 := alloc_blk w1 (.cells #[.int .i64 0, .slice none 0 0] 129)
        refine ⟨ka.x, ?_⟩
        obtain ⟨N18, h18⟩ : ∃ x, w1.heap.size = x := ⟨_, rfl⟩
        rw [h18] at b18 hk18 ⊢
        generalize w1.alloc (.cells #[.int .i64 0, .slice none 0 0] 129) = w3 at ka b18 ⊢
        refine gv_e hA rfl rfl (fun K hK => ?_)
        go_wp2_with (go_at_call 59; refine (c6.out _ _ R (hsW.grw ka) hR hocc.out).mono ?_; clear c6; rintro e w2 ⟨v2, A2, m2, cap2, t, rfl, ht, g2, t1, t2, t3⟩; obtain ⟨Av, capv, rfl, -, -, -⟩ := ht.shape)
        replace ka := ka.then g2
        replace b18 := g2.blk b18
        refine ⟨ka.x, ?_⟩
        iterate 5 (apply gv_q hA rfl rfl; intro pp; go_simp; rfl; go_simp)
        obtain ⟨f0, f1, f2, f3⟩ := map_facts b18
        refine gv_e hA rfl rfl (fun K hK => ?_)
        go_wp2
        have kz := (ka.setOwn (b := N18) (o := 0) (by omega) (.int .i64 SL)).setOwn (b := N18) (o := 1) (by omega) (.slice A2 m2 cap2)
        refine ⟨kz.x, ?_⟩
        iterate 1 (apply gv_q hA rfl rfl; intro pp; go_simp; rfl; go_simp)
        refine o_nil ?_
        go_wp2
        go_meet
        case rel => exact ⟨rfl, t, Exts.setMap b18 (fun n => by simp) ht, t1, t2, t3, kz⟩
    · go_wp2
      have hk18 := Nat.le_refl W.heap.size
      have ka := (Grw.alloc W (.cells #[.int .i64 0, .slice none 0 0] 129)).then (Grw.drw _)
      have b18 := alloc_blk W (.cells #[.int .i64 0, .slice none 0 0] 129)
      replace b18 := (Grw.drw (W.alloc (.cells #[.int .i64 0, .slice none 0 0] 129))).blk b18
      refine ⟨ka.x, ?_⟩
      obtain ⟨N18, h18⟩ : ∃ x, W.heap.size = x := ⟨_, rfl⟩
      rw [h18] at b18 hk18 ⊢
      generalize (W.alloc (.cells #[.int .i64 0, .slice none 0 0] 129)).drew = w3 at ka b18 ⊢
      refine gv_e hA rfl rfl (fun K hK => ?_)
      go_wp2_with (go_at_call 60; refine (c5 _ (gA.then ka)).mono ?_; clear c5; rintro e w1 ⟨rfl, g1⟩)
      replace ka := ka.then g1
      replace b18 := g1.blk b18
      refine ⟨ka.x, ?_⟩
      refine gv_e hA rfl rfl (fun K hK => ?_)
      go_wp2_with (go_at_call 59; refine (c6.out _ _ R (hsW.grw ka) hR hocc.out).mono ?_; clear c6; rintro e w2 ⟨v2, A2, m2, cap2, t, rfl, ht, g2, t1, t2, t3⟩; obtain ⟨Av, capv, rfl, -, -, -⟩ := ht.shape)
      replace ka := ka.then g2
      replace b18 := g2.blk b18
      refine ⟨ka.x, ?_⟩
      iterate 5 (apply gv_q hA rfl rfl; intro pp; go_simp; rfl; go_simp)
      obtain ⟨f0, f1, f2, f3⟩ := map_facts b18
      refine gv_e hA rfl rfl (fun K hK => ?_)
      go_wp2
      have kz := (ka.setOwn (b := N18) (o := 0) (by omega) (.int .i64 SL)).setOwn (b := N18) (o := 1) (by omega) (.slice A2 m2 cap2)
      refine ⟨kz.x, ?_⟩
      iterate 1 (apply gv_q hA rfl rfl; intro pp; go_simp; rfl; go_simp)
      refine o_nil ?_
      go_wp2
      go_meet
      case rel => exact ⟨rfl, t, Exts.setMap b18 (fun n => by simp) ht, t1, t2, t3, kz⟩
  case rest =>
    obtain ⟨rfl, t, ht, ti, ts, hfr, g17⟩ := hcut
    obtain ⟨At, capt, rfl, -, -, -⟩ := ht.shape
    have gB := gA.then g17
    have d7 := c7.out _ _ t ht ti ts
    have hFl := slotsL_len ti
    rw [ts] at hFl
    obtain ⟨FR, hFR⟩ : ∃ x, slotsL t = x := ⟨_, rfl⟩
    rw [hFR] at d7 hfr hFl
    clear c5 c6 c7 hsW b16 hFR ti ts ht hocc hR gA g17 h2 h3
    go_upto_region 21 with (go_at_call 61; refine d7.mono ?_; clear d7; rintro e w5 ⟨v5, rfl, ho5, g5⟩; obtain ⟨A5, cap5, rfl, -, -, -⟩ := ho5.ints.shape)
    have gL := gB.then g5
    have hI := ho5.ints
    obtain ⟨Bs, hBs⟩ : ∃ x, w5.heap.size = x := ⟨_, rfl⟩
    clear g5 ho5 gB hg0
    go_wp2
    go_loopg [19, 20, 21, 105] ds.length (fun g s19 s20 s21 s105 wx => ∃ k : Nat, k ≤ ds.length ∧ g = ds.length - k ∧ s105 = .int .i64 k ∧ Ints w5 s19 (FR.drop (used KP k)) ∧ PlR w5 Bs s20 s21 (wrP KP FR ds k) (chgsP KP FR a k) wx)
    case atStart => exact ⟨0, Nat.zero_le _, rfl, rfl, by simpa [used] using hI, ⟨Grw.self _, Nat.le_of_eq hBs, Nat.le_of_eq hBs.symm, OwnW.nil _ _, OwnE.nil _ _, fun k h => by cases h⟩⟩
    case round =>
      clear hI
      obtain ⟨k, hk, rfl, rfl, hI, hT⟩ := hrel
      by_cases hlt : k < ds.length
      · obtain ⟨d, hdk⟩ : ∃ d, ds[k]? = some d := ⟨ds[k], List.getElem?_eq_getElem hlt⟩
        obtain ⟨bD, offD, rfl, ⟨p0, p1, p2, p3⟩, p4, p5, p6, p7⟩ := hxD.out k d hdk
        have gW := gL.then hT.g
        replace p0 := Grw.cell p0 _ gW
        replace p1 := Grw.cell p1 _ gW
        replace p2 := Grw.cell p2 _ gW
        replace p3 := Grw.cell p3 _ gW
        replace p4 := Grw.cell p4 _ gW
        replace p5 := Grw.cell p5 _ gW
        replace p6 := Grw.cell p6 _ gW
        replace p7 := Grw.cell p7 _ gW
        have hdd : Aside (ds.getD k default = d) := (by rw [List.getD_eq_getElem?_getD, hdk]; rfl : ds.getD k default = d)
        have hw1 : IntKind.i64.wrap (a + k) = a + k := wrapI (by omega) (by omega)
        clear hdk
        go_upto_region 26 with (fail)
        have hbx := alloc_blk wr (.cells (blkC d).toArray 84)
        have hTa := hT.grw (Grw.alloc wr (.cells (blkC d).toArray 84))
        have hnb4 : Value.ownBlock _ ≠ some wr.heap.size := fun e => by have := own_ltR hT.o4 _ e; omega
        have hnb5 : Value.ownBlock _ ≠ some wr.heap.size := fun e => by have := own_ltR hT.o5 _ e; omega
        obtain ⟨bx, hbxd⟩ : ∃ bx, wr.heap.size = bx := ⟨_, rfl⟩
        have hbxB : Bs ≤ bx := by have := hT.hi; omega
        rw [hbxd] at hbx hnb4 hnb5 ⊢
        unfold blkC at hbx hTa
        generalize wr.alloc (.cells [u8V d.a0, u8V d.a1, u8V d.a2, u8V d.a3, u8V d.a4, u8V d.a5, u8V d.a6, u8V d.a7].toArray 84) = wa at hbx hTa ⊢
        clear p0 p1 p2 p3 p4 p5 p6 p7 gW hT hbxd
        have gW := gL.then hTa.g
        have d8 := c8.out _ gW k hlt
        obtain ⟨O, hO⟩ : ∃ x, Q k = x := ⟨_, rfl⟩
        rw [hO] at d8
        unfold RetLk at d8
        simp only at d8
        replace hO : Aside (Q k = O) := hO
        go_cut [24, 25] from 110 to 122 (fun s24 s25 wx => s24 = .int .i64 (O.getD 0) ∧ s25 = .bool O.isSome ∧ Grw wa wx)
        case first =>
          go_wp2_with (go_at_call 62; refine d8.mono ?_; clear d8; rintro e w6 ⟨rfl, g6⟩)
          go_meet
          case rel => exact ⟨rfl, rfl, g6⟩
        case rest =>
          obtain ⟨rfl, rfl, g6⟩ := hcut
          apply_assumption
          rename World => w6
          refine wp_seq_k (fun K5 hK5 => ?_)
          go_cut [19, 21, 24] from 110 to 146 (fun s19 s21 s24 wx => s24 = .int .i64 (slotP KP FR k) ∧ Ints w5 s19 (FR.drop (used KP (k + 1))) ∧ PlR w5 Bs u20 s21 (wrP KP FR ds k) (chgsP KP FR a (k + 1)) wx ∧ wx.heap[bx]? = some (.cells #[u8V d.a0, u8V d.a1, u8V d.a2, u8V d.a3, u8V d.a4, u8V d.a5, u8V d.a6, u8V d.a7] 84 (0, 0)))
          case first =>
            cases hkn : KP k with
            | none =>
              obtain ⟨X, hX1, hX2, hX4⟩ := fresh_parts (FR := FR) (a := a) (n := ds.length) hkn hlt (by rw [hNE.out]; omega)
              rw [hX2] at hI
              obtain ⟨RL, hRL⟩ : ∃ x, FR.drop (used KP (k + 1)) = x := ⟨_, rfl⟩
              rw [hRL] at hI
              obtain ⟨AI, capI, rfl, hcI, hmI, hxI⟩ := hI.shape
              obtain ⟨bI, oI, rfl, -⟩ := hxI 0 X rfl
              obtain ⟨hI2, -, pF, hc1⟩ := ints_tail hI
              simp only [List.length_cons] at hcI hI ⊢
              replace hX1 : Aside (slotP KP FR k = X) := hX1
              replace hX4 : Aside (chgsP KP FR a (k + 1) = chgsP KP FR a k ++ [⟨a + k, 1, X⟩]) := hX4
              replace hRL : Aside (FR.drop (used KP (k + 1)) = RL) := hRL
              have hlnC : Aside ((chgsP KP FR a k).length ≤ 16) := (by rw [chgs_len]; have := hub.out k; omega : (chgsP KP FR a k).length ≤ 16)
              clear hxI hX2
              cases O with
              | none =>
                simp only [Option.getD_none, Option.isSome_none]
                go_upto_region 28 with (fail)
                have gT := g6
                have hT7 := hTa.grw gT
                have hb7 := gT.blk hbx
                have q0 := Grw.cell (Grw.cell pF _ hT7.g)
                have gs := Grw.self w6
                rcases (by omega : capI = 1 ∨ 2 ≤ capI) with rfl | hc2
                · obtain rfl : RL = [] := List.eq_nil_of_length_eq_zero (by omega)
                  refine gw_region [(0, true), (1, true), (2, true), (3, true), (4, true), (5, true), (6, true)] (by kernel_rfl) (by kernel_rfl) (fun c a d v w1 h => by cases d <;> exact h) ?_
                  intro A hA
                  iterate 7 (apply gw_q hA rfl rfl; intro pp; go_simp; rfl; go_simp)
                  refine pi_nil ?_
                  have hT8 := (hT7.grw (Grw.drw w6)).grw (Grw.alloc w6.drew (.cells #[.int .i64 (a + k), .int .i64 1, .int .i64 X] 105))
                  have hb8 := (Grw.alloc w6.drew (.cells #[.int .i64 (a + k), .int .i64 1, .int .i64 X] 105)).blk ((Grw.drw w6).blk hb7)
                  have hn8 := news1 w6.drew ⟨a + k, 1, X⟩
                  have hh8 := hT7.hi
                  clear q0 gs hT7
                  go_wp2_with (at_builtin; refine wpList_append_lies _ rfl _ _ 40 rfl Bs 105 i0 _ 3 24 Tryz.underlying40 hi hz0 hz1 hz2 rfl (by decide) _ (chgsP KP FR a k).length (flat extC (chgsP KP FR a k)) rfl hT8.o5 ⟨w6.heap.size, 0, none⟩ 1 1 (extC ⟨a + k, 1, X⟩) rfl rfl hn8 (ext_one _) (by decide) (by have := hlnC.out; unfold maxLen; omega) (by have := hlnC.out; omega) (by simp; omega) (w6.heap.size + 1) (by simp) ?_; intro g9 cap9 w9 hown9 hgrow hat hgl)
                  go_meet
                  case rel =>
                    have hb9 := (hgrow.block bx (by have := (Array.getElem?_eq_some_iff.1 hb8).1; exact this) (fun e => hnb5 e.symm)).trans hb8
                    refine ⟨by rw [hX1.out], by rw [hRL.out]; exact ints_none rfl, ?_, hb9⟩
                    rw [hX4.out]
                    refine hT8.app5 ?_ hgrow (hat.imp id (fun h => by simp only [World.size_alloc, World.size_drew]; omega))
                    unfold OwnE
                    rw [flat_snoc, List.length_append]
                    exact hown9
                · have hc3 : ¬ capI = 1 := by omega
                  have hc4 : (1 : Int) ≤ (RL.length : Int) + 1 := by omega
                  refine gw_region [(0, true), (1, true), (2, true), (3, true), (4, true), (5, true), (6, true)] (by kernel_rfl) (by kernel_rfl) (fun c a d v w1 h => by cases d <;> exact h) ?_
                  intro A hA
                  iterate 7 (apply gw_q hA rfl rfl; intro pp; go_simp; rfl; go_simp)
                  refine pi_nil ?_
                  have hT8 := (hT7.grw (Grw.drw w6)).grw (Grw.alloc w6.drew (.cells #[.int .i64 (a + k), .int .i64 1, .int .i64 X] 105))
                  have hb8 := (Grw.alloc w6.drew (.cells #[.int .i64 (a + k), .int .i64 1, .int .i64 X] 105)).blk ((Grw.drw w6).blk hb7)
                  have hn8 := news1 w6.drew ⟨a + k, 1, X⟩
                  have hh8 := hT7.hi
                  clear q0 gs hT7
                  go_wp2_with (at_builtin; refine wpList_append_lies _ rfl _ _ 40 rfl Bs 105 i0 _ 3 24 Tryz.underlying40 hi hz0 hz1 hz2 rfl (by decide) _ (chgsP KP FR a k).length (flat extC (chgsP KP FR a k)) rfl hT8.o5 ⟨w6.heap.size, 0, none⟩ 1 1 (extC ⟨a + k, 1, X⟩) rfl rfl hn8 (ext_one _) (by decide) (by have := hlnC.out; unfold maxLen; omega) (by have := hlnC.out; omega) (by simp; omega) (w6.heap.size + 1) (by simp) ?_; intro g9 cap9 w9 hown9 hgrow hat hgl)
                  go_meet
                  case rel =>
                    have hb9 := (hgrow.block bx (by have := (Array.getElem?_eq_some_iff.1 hb8).1; exact this) (fun e => hnb5 e.symm)).trans hb8
                    refine ⟨by rw [hX1.out], by rw [hRL.out]; exact hI2, ?_, hb9⟩
                    rw [hX4.out]
                    refine hT8.app5 ?_ hgrow (hat.imp id (fun h => by simp only [World.size_alloc, World.size_drew]; omega))
                    unfold OwnE
                    rw [flat_snoc, List.length_append]
                    exact hown9
              | some s9 =>
                have hc9 : CN s9.toNat ≠ 1 := fun e => by have := hk1.out k s9 hO.out e; rw [hkn] at this; cases this
                have hc9' : (CN s9.toNat != 1) = true := by rw [bne_iff_ne]; exact hc9
                have d9 := c9.out _ (gW.then g6) k s9 hO.out
                have gW6 := gW.then g6
                obtain ⟨CK, hCK⟩ : ∃ x, CN s9.toNat = x := ⟨_, rfl⟩
                rw [hCK] at d9 hc9 hc9'
                clear hCK
                simp only [Option.getD_some, Option.isSome_some]
                go_upto_region 28 with (go_at_call 63; refine d9.mono ?_; clear d9; rintro e w8 ⟨rfl, g8⟩)
                have gT := g6.then g8
                have hT7 := hTa.grw gT
                have hb7 := gT.blk hbx
                have q0 := Grw.cell (Grw.cell pF _ hT7.g)
                have gs := Grw.self w8
                rcases (by omega : capI = 1 ∨ 2 ≤ capI) with rfl | hc2
                · obtain rfl : RL = [] := List.eq_nil_of_length_eq_zero (by omega)
                  refine gw_region [(0, true), (1, true), (2, true), (3, true), (4, true), (5, true), (6, true)] (by kernel_rfl) (by kernel_rfl) (fun c a d v w1 h => by cases d <;> exact h) ?_
                  intro A hA
                  iterate 7 (apply gw_q hA rfl rfl; intro pp; go_simp; rfl; go_simp)
                  refine pi_nil ?_
                  have hT8 := (hT7.grw (Grw.drw w8)).grw (Grw.alloc w8.drew (.cells #[.int .i64 (a + k), .int .i64 1, .int .i64 X] 105))
                  have hb8 := (Grw.alloc w8.drew (.cells #[.int .i64 (a + k), .int .i64 1, .int .i64 X] 105)).blk ((Grw.drw w8).blk hb7)
                  have hn8 := news1 w8.drew ⟨a + k, 1, X⟩
                  have hh8 := hT7.hi
                  clear q0 gs hT7
                  go_wp2_with (at_builtin; refine wpList_append_lies _ rfl _ _ 40 rfl Bs 105 i0 _ 3 24 Tryz.underlying40 hi hz0 hz1 hz2 rfl (by decide) _ (chgsP KP FR a k).length (flat extC (chgsP KP FR a k)) rfl hT8.o5 ⟨w8.heap.size, 0, none⟩ 1 1 (extC ⟨a + k, 1, X⟩) rfl rfl hn8 (ext_one _) (by decide) (by have := hlnC.out; unfold maxLen; omega) (by have := hlnC.out; omega) (by simp; omega) (w8.heap.size + 1) (by simp) ?_; intro g9 cap9 w9 hown9 hgrow hat hgl)
                  go_meet
                  case rel =>
                    have hb9 := (hgrow.block bx (by have := (Array.getElem?_eq_some_iff.1 hb8).1; exact this) (fun e => hnb5 e.symm)).trans hb8
                    refine ⟨by rw [hX1.out], by rw [hRL.out]; exact ints_none rfl, ?_, hb9⟩
                    rw [hX4.out]
                    refine hT8.app5 ?_ hgrow (hat.imp id (fun h => by simp only [World.size_alloc, World.size_drew]; omega))
                    unfold OwnE
                    rw [flat_snoc, List.length_append]
                    exact hown9
                · have hc3 : ¬ capI = 1 := by omega
                  have hc4 : (1 : Int) ≤ (RL.length : Int) + 1 := by omega
                  refine gw_region [(0, true), (1, true), (2, true), (3, true), (4, true), (5, true), (6, true)] (by kernel_rfl) (by kernel_rfl) (fun c a d v w1 h => by cases d <;> exact h) ?_
                  intro A hA
                  iterate 7 (apply gw_q hA rfl rfl; intro pp; go_simp; rfl; go_simp)
                  refine pi_nil ?_
                  have hT8 := (hT7.grw (Grw.drw w8)).grw (Grw.alloc w8.drew (.cells #[.int .i64 (a + k), .int .i64 1, .int .i64 X] 105))
                  have hb8 := (Grw.alloc w8.drew (.cells #[.int .i64 (a + k), .int .i64 1, .int .i64 X] 105)).blk ((Grw.drw w8).blk hb7)
                  have hn8 := news1 w8.drew ⟨a + k, 1, X⟩
                  have hh8 := hT7.hi
                  clear q0 gs hT7
                  go_wp2_with (at_builtin; refine wpList_append_lies _ rfl _ _ 40 rfl Bs 105 i0 _ 3 24 Tryz.underlying40 hi hz0 hz1 hz2 rfl (by decide) _ (chgsP KP FR a k).length (flat extC (chgsP KP FR a k)) rfl hT8.o5 ⟨w8.heap.size, 0, none⟩ 1 1 (extC ⟨a + k, 1, X⟩) rfl rfl hn8 (ext_one _) (by decide) (by have := hlnC.out; unfold maxLen; omega) (by have := hlnC.out; omega) (by simp; omega) (w8.heap.size + 1) (by simp) ?_; intro g9 cap9 w9 hown9 hgrow hat hgl)
                  go_meet
                  case rel =>
                    have hb9 := (hgrow.block bx (by have := (Array.getElem?_eq_some_iff.1 hb8).1; exact this) (fun e => hnb5 e.symm)).trans hb8
                    refine ⟨by rw [hX1.out], by rw [hRL.out]; exact hI2, ?_, hb9⟩
                    rw [hX4.out]
                    refine hT8.app5 ?_ hgrow (hat.imp id (fun h => by simp only [World.size_alloc, World.size_drew]; omega))
                    unfold OwnE
                    rw [flat_snoc, List.length_append]
                    exact hown9
            | some s9 =>
              obtain ⟨hX1, hX2, hX4⟩ := keep_parts (FR := FR) (a := a) hkn
              cases O with
              | none => have := hk3.out k hO.out; rw [hkn] at this; cases this
              | some s8 =>
                have hc9 : CN s8.toNat = 1 := Classical.byContradiction fun e => by have := hk2.out k s8 hO.out e; rw [hkn] at this; cases this
                have he := hk1.out k s8 hO.out hc9
                rw [hkn] at he
                obtain rfl : s9 = s8 := Option.some.inj he
                have d9 := c9.out _ (gW.then g6) k s9 hO.out
                have gW6 := gW.then g6
                rw [hc9] at d9
                replace hX1 : Aside (slotP KP FR k = s9) := hX1
                replace hX2 : Aside (used KP (k + 1) = used KP k) := hX2
                replace hX4 : Aside (chgsP KP FR a (k + 1) = chgsP KP FR a k) := hX4
                clear hc9 he
                simp only [Option.getD_some, Option.isSome_some]
                go_wp2_with (go_at_call 63; refine d9.mono ?_; clear d9; rintro e w8 ⟨rfl, g8⟩)
                go_meet
                case rel =>
                  have gT := g6.then g8
                  exact ⟨by rw [hX1.out], by rw [hX2.out]; exact hI, by rw [hX4.out]; exact hTa.grw gT, gT.blk hbx⟩
          case rest =>
            obtain ⟨rfl, hI7, hT7, hb7⟩ := hcut
            clear hTa hbx hI gW g6 hO c8 c9 hk1 hk2 hk3
            obtain ⟨⟨y0, y1, y2, y3⟩, y4, y5, y6, y7⟩ := blk_facts (x := d) hb7
            obtain ⟨SP, hSP⟩ : ∃ x, slotP KP FR k = x := ⟨_, rfl⟩
            rw [hSP]
            replace hSP : Aside (slotP KP FR k = SP) := hSP
            obtain ⟨WL, hWL⟩ : ∃ x, wrP KP FR ds k = x := ⟨_, rfl⟩
            have hWl := wrP_len KP FR ds k
            rw [hWL] at hT7 hWl
            replace hWL : Aside (wrP KP FR ds k = WL) := hWL
            have hlnW : Aside (WL.length ≤ 16) := (by omega : WL.length ≤ 16)
            have hT8 := hT7.grw (Grw.alloc wc (.cells (wrC ⟨SP, d⟩).toArray 86))
            have hn8 := newsW wc ⟨SP, d⟩
            have hh8 := hT7.hi
            unfold wrC blkC at hT8
            clear hT7 hWl
            go_wp2_with (at_builtin; refine wpList_append_lies _ rfl _ _ 51 rfl Bs 86 j0 _ 9 16 Tryz.underlying51 hj hy0 hy1 hy2 rfl (by decide) _ WL.length (flat wrC WL) rfl hT8.o4 ⟨wc.heap.size, 0, none⟩ 1 1 (wrC ⟨SP, d⟩) rfl rfl hn8 (wr_one _) (by decide) (by have := hlnW.out; unfold maxLen; omega) (by have := hlnW.out; omega) (by simp; omega) (wc.heap.size + 1) (by simp) ?_; intro g9 cap9 w9 hown9 hgrow hat hgl)
            go_roundg (ds.length - (k + 1))
            case measure => omega
            case rel =>
              refine ⟨k + 1, by omega, rfl, by simp, hI7, ?_⟩
              rw [wrP_succ, hdd.out, hWL.out, hSP.out]
              refine hT8.app4 ?_ hgrow (hat.imp id (fun h => by simp only [World.size_alloc]; omega))
              unfold OwnW
              rw [flat_snoc, List.length_append]
              exact hown9
      · obtain rfl : k = ds.length := by omega
        have hvl := hjv.out FR hfr (by rw [hNE.out]; omega)
        have hone := hjn.out FR hfr (by rw [hNE.out]; omega)
        have hfew := hjl.out FR
        have gW := gL.then hT.g
        have hws := hT.o4.wrs
        have d10 := join_list_any wr hT.o5.exts hvl
        obtain ⟨A21, cap21, rfl, -, -, -⟩ := hT.o5.exts.shape
        obtain ⟨C, hC⟩ : ∃ x, joinL (chgsP KP FR a ds.length) = x := ⟨_, rfl⟩
        rw [hC] at d10 hone hfew
        replace hC : Aside (joinL (chgsP KP FR a ds.length) = C) := hC
        have hCl : C.length ≤ 16 := by have := hNE.out; omega
        have hfr' : Aside (FreshL SL CN FR ∧ used KP ds.length ≤ FR.length) := (⟨hfr, by rw [hNE.out]; omega⟩ : FreshL SL CN FR ∧ used KP ds.length ≤ FR.length)
        have d11 : ∀ W : World, Calls Tryz.prog 48 #[.int .u64 1, strV nm] W (RetBs (encU 1 ++ encB nm) W) := fun W => header_any (kind := 1) (nm := nm) (W0 := W) (by omega) (by omega) hn0
        have hH := hdr_len (k := 1) (nm := nm) (by omega) (by omega)
        obtain ⟨H, hHd⟩ : ∃ x, encU 1 ++ encB nm = x := ⟨_, rfl⟩
        rw [hHd] at d11 hH
        have d12 := fun (W : World) (v : Value) (hv : Bys W v H) => numbers_any (W0 := W.alloc (.cells #[.int .i64 (C.length : Int)] 3)) (hv.grw (Grw.alloc _ _)) (ints_one W (C.length : Int)) (by omega) (by simp; omega) (by simp)
        have hE1 := encNs_len (l := [(C.length : Int)]) (by simp; omega)
        obtain ⟨B1, hB1⟩ : ∃ x, H ++ encNs [(C.length : Int)] = x := ⟨_, rfl⟩
        have hB1l : B1.length ≤ 3000 := by rw [← hB1, List.length_append]; simp only [List.length_cons, List.length_nil] at hE1; omega
        rw [hB1] at d12
        have hnote : Aside (noteW nm C = B1 ++ encXs C) := (by rw [← hB1, ← hHd]; unfold noteW; simp [encNs] : noteW nm C = B1 ++ encXs C)
        replace d12 : Aside (∀ (W : World) (v : Value) (hv : Bys W v H), _) := d12
        replace hone : Aside (∀ x ∈ C, x.One) := hone
        unfold RetJoin at d10
        clear hjv hjn hjl hub hNE hvl hfr hHd hB1 hE1 hI hT c8 c9 hk1 hk2 hk3 hxD hfew
        go_upto_region 34 with (first
          | (go_at_call 64; refine d10.mono ?_; clear d10; rintro e w7 ⟨v7, rfl, ho7, g7⟩; obtain ⟨A7, cap7, rfl, -, -, hx7⟩ := ho7.exts.shape; replace hx7 : Aside (∀ i x, C[i]? = some x → ∃ b off, A7 = some ⟨b, off, none⟩ ∧ w7.cell? ⟨b, off + i * 3, none⟩ = some (.int .i64 x.at_) ∧ w7.cell? ⟨b, off + i * 3 + 1, none⟩ = some (.int .i64 x.len) ∧ w7.cell? ⟨b, off + i * 3 + 2, none⟩ = some (.int .i64 x.slot)) := hx7; clear ho7)
          | (go_at_call 48; refine (d11 _).mono ?_; clear d11; rintro e w8 ⟨v8, rfl, hv8, g8⟩)
          | (go_at_call 41; refine (d12.out _ _ hv8).mono ?_; clear d12; rintro e w9 ⟨v9, rfl, hv9, g9⟩))
        have g79 : Grw w7 w9 := g8.then ((Grw.alloc w8 (.cells #[.int .i64 (C.length : Int)] 3)).then g9)
        have gW7 := g7.then g79
        clear g7 g8 g9 hv8
        go_wp2
        go_loopg [27, 167] C.length (fun g s27 i wx => ∃ j : Nat, j ≤ C.length ∧ g = C.length - j ∧ i = .int .i64 j ∧ Bys wx s27 (B1 ++ encXs (C.take j)) ∧ Grw w9 wx)
        case atStart => exact ⟨0, Nat.zero_le _, rfl, rfl, by simpa [encXs] using hv9, Grw.self _⟩
        case round =>
          clear hv9
          obtain ⟨j, hj, rfl, rfl, hvj, hgj⟩ := hrel
          by_cases hlj : j < C.length
          · obtain ⟨x, hlx⟩ : ∃ x, C[j]? = some x := ⟨C[j], List.getElem?_eq_getElem hlj⟩
            obtain ⟨b2, off2, rfl, p0, p1, p2⟩ := hx7.out j x hlx
            have g7j := g79.then hgj
            replace p0 := Grw.cell p0 _ g7j
            replace p1 := Grw.cell p1 _ g7j
            replace p2 := Grw.cell p2 _ g7j
            have hxo := hone.out x (List.mem_of_getElem? hlx)
            unfold Ext.One at hxo
            have hle : (B1 ++ encXs (C.take j)).length ≤ 40000 := by
              have := encXs_len (l := C.take j) fun y hy => hone.out y (List.mem_of_mem_take hy)
              have h3 : (C.take j).length ≤ 16 := by rw [List.length_take]; omega
              rw [List.length_append]
              omega
            have c7 := fun (W : World) (v : Value) (hv : Bys W v (B1 ++ encXs (C.take j))) => numbers_any (hv.grw (Grw.alloc W (.cells #[.int .i64 x.at_, .int .i64 x.len, .int .i64 x.slot] 3))) (ints_three W x.at_ x.len x.slot) (by omega) (by simp; omega) (by simp)
            have hnx : B1 ++ encXs (C.take j) ++ encNs [x.at_, x.len, x.slot] = B1 ++ encXs (C.take (j + 1)) := by rw [encXs_take hlx, List.append_assoc]
            rw [hnx] at c7
            have hvb := hvj.grw (Grw.alloc wr (.cells #[.int .i64 x.at_, .int .i64 x.len, .int .i64 x.slot] 105))
            obtain ⟨B2, hB2⟩ : ∃ x, B1 ++ encXs (C.take j) = x := ⟨_, rfl⟩
            obtain ⟨B3, hB3⟩ : ∃ x, B1 ++ encXs (C.take (j + 1)) = x := ⟨_, rfl⟩
            rw [hB2, hB3] at c7
            rw [hB2] at hvb
            have c8 := c7 _ _ hvb
            simp only [World.size_alloc] at c8
            replace hB3 : Aside (B1 ++ encXs (C.take (j + 1)) = B3) := hB3
            clear hlx hx7 hxo hnx hB2 hle hvj c7 hvb g7j
            go_wp2_with (go_at_call 41; refine c8.mono ?_; clear c8; rintro e w11 ⟨v11, rfl, hv11, g11⟩)
            go_roundg (C.length - (j + 1))
            case measure => omega
            case rel => exact ⟨j + 1, by omega, rfl, rfl, by rw [hB3.out]; exact hv11, ((hgj.alc _).alc _).then g11⟩
          · obtain rfl : j = C.length := by omega
            rw [List.take_length, ← hnote.out] at hvj
            clear hx7 hone
            have d13 := note_any (k := 0) hvj
            obtain ⟨A27, cap27, rfl, -, -, -⟩ := hvj.shape
            have gz := gW7.then hgj
            have hws' := hws.grw gz
            obtain ⟨NB, hNB⟩ : ∃ x, noteW nm C = x := ⟨_, rfl⟩
            simp only [hNB] at d13 hvj ⊢
            replace hNB : Aside (noteW nm C = NB) := hNB
            obtain ⟨LN, hLN⟩ : ∃ x, NB.length = x := ⟨_, rfl⟩
            rw [hLN] at d13 ⊢
            clear hLN hvj hnote
            go_wp2_with (go_at_call 47; refine d13.mono ?_; clear d13; rintro e w12 ⟨v12, rfl, hv12, g12⟩)
            refine bodyPost_ret (v := .tuple #[u20, v12, .int .i64 0]) (by simp [results, Tryz.results21, go_sem]) rfl ⟨FR, _, _, hfr'.out.1, hfr'.out.2, rfl, hws'.grw g12, ?_, gW.then (gz.then g12)⟩
            simp only [if_true] at hv12
            rw [hC.out, hNB.out]
            exact hv12
end Go.Proofs.YtbfdnfkflnajlaaGreat
