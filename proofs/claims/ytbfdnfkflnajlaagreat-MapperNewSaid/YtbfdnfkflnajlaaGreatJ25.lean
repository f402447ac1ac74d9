/-
  mapper: State. mapper: a nil mapper. mapper: must, the reader's number, name, extent. mapper: the change 'create'. mapper: the changes 'clone', 'delete', 'unmap'.
-/
import Derived.Test.YtbfdnfkflnajlaaGreatJ24
set_option linter.unusedVariables false
set_option linter.unusedSimpArgs false
/-! mapper: State. -/
namespace Go.Proofs.YtbfdnfkflnajlaaGreat
open Go.RowKit Go.Shelf
open Ext hiding One

set_option maxRecDepth 100000 in
set_option maxHeartbeats 4000000 in
theorem mstate_any {p : Nat} {f : Fam} {W0 : World} (h : MapR W0 p f) (hf : f.WF) :
    Calls Tryz.prog 17 #[ptr p] W0 (RetBs (encF f) W0) := by
  obtain ⟨s, mp, hb, hF⟩ := h
  obtain ⟨A, cap, rfl⟩ := hF.sl
  generalize f.cs.length = CL at hb hF
  obtain ⟨u0, u1⟩ := map_load hb
  have hlen : f.names.length = f.vols.length := by simp [Fam.names]
  have hfew := hf.few
  have c1 := names_any hF hf
  have c2 := fun (W : World) => numbers_any (W0 := W.alloc (.cells #[.int .i64 (f.vols.length : Int)] 3)) (b := []) (v := .slice none 0 0) (Rows.nil _ 1) (ints_one W (f.vols.length : Int)) (by simp) (by simp; omega) (by simp)
  have c3 := fun (W : World) (hg : Grw W0 W) (k : Nat) (u : Vol) (hu : f.vols[k]? = some u) => (info_any (nm := u.name) (hF.grw hg) hf (by have := nameB_len (hf.vols u (List.mem_of_getElem? hu)).1; omega)).mono (R' := RetInfo (infoV u.name u.n u.res (sumL u.l) (f.exc u.l), 0) W) (by
    have e : f.infoV u.name = (infoV u.name u.n u.res (sumL u.l) (f.exc u.l), 0) := by unfold Fam.infoV; rw [getV_mem hf.sorted (List.mem_of_getElem? hu)]
    rw [e]
    exact fun e w h => h)
  have c4 := fun (W : World) (hg : Grw W0 W) (k : Nat) (u : Vol) (hu : f.vols[k]? = some u) => (range_fam (nm := u.name) (a := 0) (n := u.n) (hF.grw hg) hf (by have := nameB_len (hf.vols u (List.mem_of_getElem? hu)).1; omega) (by unfold smallI; omega)).mono (R' := RetLE (u.l, 0) W) (by
    have hw := hf.vols u (List.mem_of_getElem? hu)
    have e : f.range u.name 0 u.n = (u.l, 0) := by
      unfold Fam.range
      rw [getV_mem hf.sorted (List.mem_of_getElem? hu)]
      simp only
      rw [if_pos (by have := hw.2.1; omega), inL_all hw.2.2.2.2.2.1 hw.2.2.2.2.2.2.1]
    rw [e]
    exact fun e w h => h)
  have hwf : ∀ (k : Nat) (u : Vol), f.vols[k]? = some u → (u.name.length ≤ 16 ∧ u.name ≠ []) ∧ (1 ≤ u.n ∧ u.n ≤ 65536) ∧ (0 ≤ u.res ∧ u.res ≤ 65536) ∧ (u.l.length : Int) ≤ 65536 ∧ ∀ x ∈ u.l, x.One := fun k u hu => by
    obtain ⟨k1, k2, k3, k4, k5, k6, k7, _⟩ := hf.vols u (List.mem_of_getElem? hu)
    have hnm := nameB_len k1
    have := (k6.len k7 (by omega)).2
    exact ⟨⟨by omega, fun e => by rw [e] at hnm; simp at hnm⟩, ⟨k2, k3⟩, ⟨k4, by omega⟩, by omega, k6.1⟩
  have hPl : ∀ k, (encNs [(f.vols.length : Int)] ++ encVs (f.vols.take k)).length ≤ 30000000 := fun k => by
    have h1 := encVs_len (vs := f.vols.take k) (N := f.slots) fun v hv => hf.vols v (List.mem_of_mem_take hv)
    have h2 := encNs_len (l := [(f.vols.length : Int)]) (by simp; omega)
    have h3 : (f.vols.take k).length ≤ 32 := by rw [List.length_take]; omega
    rw [List.length_append]
    simp only [List.length_cons, List.length_nil] at h2
    omega
  have hget : ∀ k : Nat, f.names[k]? = (f.vols[k]?).map Vol.name := fun k => by simp [Fam.names]
  have hfin : encF f = encNs [(f.vols.length : Int)] ++ encVs (f.vols.take f.vols.length) := by rw [List.take_length]; simp [encF, encNs]
  rw [hfin]
  have hstep : ∀ (k : Nat) (u : Vol), f.vols[k]? = some u → encNs [(f.vols.length : Int)] ++ encVs (f.vols.take (k + 1)) = encNs [(f.vols.length : Int)] ++ encVs (f.vols.take k) ++ encB u.name ++ encNs [u.n, u.res, u.l.length] ++ encXs u.l := fun k u hu => by rw [encVs_take hu]; simp only [List.append_assoc]
  rw [List.nil_append] at c2
  obtain ⟨P, hP⟩ : ∃ P : Nat → List UInt8, ∀ k, encNs [(f.vols.length : Int)] ++ encVs (f.vols.take k) = P k := ⟨fun k => encNs [(f.vols.length : Int)] ++ encVs (f.vols.take k), fun k => rfl⟩
  have hP0 : encNs [(f.vols.length : Int)] = P 0 := by rw [← hP]; simp [encVs]
  simp only [hP] at hPl hstep ⊢
  rw [hP0] at c2
  replace c3 : Aside (∀ (W : World) (hg : Grw W0 W) (k : Nat) (u : Vol) (hu : f.vols[k]? = some u), _) := c3
  replace c4 : Aside (∀ (W : World) (hg : Grw W0 W) (k : Nat) (u : Vol) (hu : f.vols[k]? = some u), _) := c4
  replace hwf : Aside (∀ (k : Nat) (u : Vol), f.vols[k]? = some u → (u.name.length ≤ 16 ∧ u.name ≠ []) ∧ (1 ≤ u.n ∧ u.n ≤ 65536) ∧ (0 ≤ u.res ∧ u.res ≤ 65536) ∧ (u.l.length : Int) ≤ 65536 ∧ ∀ x ∈ u.l, x.One) := hwf
  replace hPl : Aside (∀ k, (P k).length ≤ 30000000) := hPl
  replace hget : Aside (∀ k : Nat, f.names[k]? = (f.vols[k]?).map Vol.name) := hget
  replace hstep : Aside (∀ (k : Nat) (u : Vol), f.vols[k]? = some u → P (k + 1) = P k ++ encB u.name ++ encNs [u.n, u.res, u.l.length] ++ encXs u.l) := hstep
  have hb0 := hb
  clear hP hP0 hfin hF hf
  go_enter Tryz.func17, Tryz.ntmps17
  go_wp2_with (first
    | (go_at_call 40; refine c1.mono ?_; clear c1; rintro e w1 ⟨vn, rfl, hn, g1⟩; unfold Strs at hn; rw [hlen] at hn; obtain ⟨An, capn, rfl, hcn, hmn, hxn⟩ := (show ∃ An capn, vn = .slice An f.vols.length capn ∧ f.vols.length ≤ capn ∧ capn ≤ maxLen ∧ ∀ (i : Nat) (x : List UInt8), f.names[i]? = some x → ∃ b off, An = some ⟨b, off, none⟩ ∧ w1.cell? ⟨b, off + i, none⟩ = some (strV x) from by have h9 : Strs w1 vn f.names := (by unfold Strs; rw [hlen]; exact hn); obtain ⟨a, b, c, d, e, g⟩ := h9.shape; rw [hlen] at c d; exact ⟨a, b, c, d, e, g⟩))
    | (go_at_call 41; refine (c2 _).mono ?_; clear c2; rintro e w2 ⟨v2, rfl, hv2, g2⟩))
  replace hxn : Aside (∀ (i : Nat) (x : List UInt8), f.names[i]? = some x → ∃ b off, An = some ⟨b, off, none⟩ ∧ w1.cell? ⟨b, off + i, none⟩ = some (strV x)) := hxn
  unfold maxLen at hmn
  have g12 : Grw w1 w2 := (Grw.alloc w1 (.cells #[.int .i64 (f.vols.length : Int)] 3)).then g2
  clear hn g2
  go_loopg [4, 26] f.vols.length (fun g s4 i wr => ∃ k : Nat, k ≤ f.vols.length ∧ g = f.vols.length - k ∧ i = .int .i64 k ∧ Bys wr s4 (P k) ∧ Grw w1 wr)
  case atStart => exact ⟨0, Nat.zero_le _, rfl, rfl, hv2, g12⟩
  case round =>
    clear hv2 g12
    obtain ⟨k, hk, rfl, rfl, hby, hg⟩ := hrel
    by_cases hlt : k < f.vols.length
    · obtain ⟨u, hu⟩ : ∃ u, f.vols[k]? = some u := ⟨f.vols[k], List.getElem?_eq_getElem hlt⟩
      have hnk : f.names[k]? = some u.name := by rw [hget.out, hu]; rfl
      obtain ⟨bn, off, rfl, p0⟩ := hxn.out k u.name hnk
      replace p0 := Grw.cell p0 _ hg
      have hgA := g1.then hg
      have r0 := Grw.cell u0 _ hgA
      have r1 := Grw.cell u1 _ hgA
      have d3 := c3.out _ hgA k u hu
      have d4 := fun (W : World) (hg : Grw W0 W) => c4.out W hg k u hu
      obtain ⟨⟨n1, n2⟩, ⟨n3, n4⟩, ⟨n5, n6⟩, n7, n8⟩ := hwf.out k u hu
      have hst := hstep.out k u hu
      have hPk := hPl.out k
      obtain ⟨nm, hnm⟩ : ∃ x, u.name = x := ⟨_, rfl⟩
      obtain ⟨un, hun⟩ : ∃ x, u.n = x := ⟨_, rfl⟩
      obtain ⟨ur, hur⟩ : ∃ x, u.res = x := ⟨_, rfl⟩
      obtain ⟨l, hl⟩ : ∃ x, u.l = x := ⟨_, rfl⟩
      rw [hnm] at d3 p0 n1 n2
      simp only [hnm, hun] at d4
      simp only [hun, hur, hl] at d3
      simp only [hl] at d4
      rw [hun] at n3 n4
      rw [hur] at n5 n6
      rw [hl] at n7 n8
      rw [hnm, hun, hur, hl] at hst
      have hEb : (encB nm).length ≤ 17 := encB_len n1
      have hEn := encNs_len (l := [un, ur, (l.length : Int)]) (by simp; omega)
      obtain ⟨B0, hB0⟩ : ∃ x, P k = x := ⟨_, rfl⟩
      rw [hB0] at hby hst hPk
      have c5 := fun (W : World) (v w : Value) (hv : Bys W v B0) (hw : Bys W w nm) => appendBytes_any hv hw (by omega) (by omega) n2
      have c6 := fun (W : World) (v w : Value) (hv : Bys W v (B0 ++ encB nm)) (hw : Ints W w [un, ur, (l.length : Int)]) => numbers_any hv hw (by rw [List.length_append]; omega) (by simp; omega) (by simp)
      have kc := conv_run nm
      have kb := fun (W : World) => conv_bys W nm (by omega)
      obtain ⟨SU, hSU⟩ : ∃ x, sumL l = x := ⟨_, rfl⟩
      obtain ⟨EX, hEX⟩ : ∃ x, f.exc l = x := ⟨_, rfl⟩
      rw [hSU, hEX] at d3
      replace c5 : Aside (∀ (W : World) (v w : Value) (hv : Bys W v B0) (hw : Bys W w nm), _) := c5
      replace c6 : Aside (∀ (W : World) (v w : Value) (hv : Bys W v (B0 ++ encB nm)) (hw : Ints W w [un, ur, (l.length : Int)]), _) := c6
      replace kb : Aside (∀ (W : World), _) := kb
      replace n8 : Aside (∀ x ∈ l, x.One) := n8
      obtain ⟨B1, hB1⟩ : ∃ x, B0 ++ encB nm ++ encNs [un, ur, (l.length : Int)] = x := ⟨_, rfl⟩
      have hB1l : B1.length ≤ 30000100 := by
        rw [← hB1]
        simp only [List.length_append, List.length_cons, List.length_nil] at hEn ⊢
        omega
      rw [hB1] at hst c6
      replace hst : Aside (P (k + 1) = B1 ++ encXs l) := hst
      have hml : l.length ≤ 65536 := by omega
      unfold infoV at d3
      clear hu hnk hnm hun hur hl hB0 hB1 hSU hEX hEb hEn hPk n1 n2 hxn
      go_upto_region 9 with (go_at_call 42; refine d3.mono ?_; clear d3; rintro e w3 ⟨rfl, g3⟩)
      have b7 := alloc_blk w3 (.cells #[strV nm, .int .i64 un, .int .i64 ur, .int .i64 SU, .int .i64 EX] 98)
      have g37 := g3.alc (.cells #[strV nm, .int .i64 un, .int .i64 ur, .int .i64 SU, .int .i64 EX] 98)
      generalize w3.alloc (.cells #[strV nm, .int .i64 un, .int .i64 ur, .int .i64 SU, .int .i64 EX] 98) = W at b7 g37 ⊢
      have gAW := hgA.then g37
      have q0 := fun (B : World) (hB : Grw W B) => blk_cell (hB.blk (gAW.blk hb)) 0
      have q1 := fun (B : World) (hB : Grw W B) => blk_cell (hB.blk (gAW.blk hb)) 1
      have q2 := fun (B : World) (hB : Grw W B) => blk_cell (hB.blk b7) 1
      have q3 := fun (B : World) (hB : Grw W B) => blk_cell (hB.blk b7) 2
      simp only [List.getElem?_toArray, List.getElem?_cons_zero, List.getElem?_cons_succ] at q0 q1 q2 q3
      have gs := Grw.self W
      obtain ⟨B7, hB7⟩ : ∃ x, w3.heap.size = x := ⟨_, rfl⟩
      rw [hB7] at b7 q2 q3 ⊢
      clear p0
      refine gw_region [(0, true), (1, true), (2, true), (3, true), (4, true), (5, true), (6, true), (7, false), (8, true), (9, true), (10, true), (11, true), (12, true)] (by kernel_rfl) (by kernel_rfl) (fun c a d v w1 h => by cases d <;> exact h) ?_
      intro A hA
      iterate 7 (apply gw_q hA rfl rfl; intro pp; go_simp; rfl; go_simp)
      have k0 := Grw.drw W
      refine gw_e hA rfl rfl (fun K hK => ?_)
      go_wp2_with (go_at_call 43; refine (d4 _ (gAW.then k0)).mono ?_; clear d4; rintro e w5 ⟨v5, rfl, ho5, g5⟩; obtain ⟨A5, cap5, rfl, hc5, hm5, hx5⟩ := ho5.exts.shape)
      have k5 := k0.then g5
      refine ⟨k5, ?_⟩
      iterate 5 (apply gw_q hA rfl rfl; intro pp; go_simp; rfl; go_simp)
      refine pi_nil ?_
      go_upto_region 10 with (fail)
      have hb5 := hby.grw (g37.then k5)
      have b75 := k5.blk b7
      have e1 := GrwX.cells (X := noX) b75 (fun h => h) 1
      have e2 := GrwX.cells (X := noX) b75 (fun h => h) 2
      simp only [List.getElem?_toArray, List.getElem?_cons_zero, List.getElem?_cons_succ] at e1 e2
      have gsx := GrwX.self noX w5
      have gA5 := gAW.then k5
      have hgw := hg.then (g37.then k5)
      clear q0 q1 q2 q3 b7 hx5 gs hby
      go_cut [4] from 62 to 78 (fun s4 wx => Bys wx s4 B1 ∧ Grw w5 wx)
      case first =>
        have k0 := Grw.drw w5
        have k1 := k0.then (conv_grw w5.drew nm)
        refine gv_region (noX) (.q 0 (.q 1 (.q 4 (.q 5 (.q 6 (.q 7 (.q 8 (.q 9 (.two 2 10 (.two 3 10 (.e 10 (.e 11 (.q 12 .nil))) (.e 3 (.e 11 (.q 12 .nil)))) (.e 2 (.e 3 (.e 11 (.q 12 .nil))))))))))))) (by kernel_rfl) (by kernel_rfl) (fun c a d v w1 h => by cases d <;> exact h) ?_
        intro A hA
        iterate 8 (apply gv_q hA rfl rfl; intro pp; go_simp; rfl; go_simp)
        refine gv_two hA rfl rfl rfl rfl (fun K hK => ?_) (fun K hK => ?_)
        · go_wp2
          refine ⟨k1.x, ?_⟩
          refine gv_two hA rfl rfl rfl rfl (fun K hK => ?_) (fun K hK => ?_)
          · go_wp2_with (go_at_call 44; refine (c5.out _ _ _ (hb5.grw k1) (kb.out w5.drew)).mono ?_; clear c5; rintro e w6 ⟨v6, rfl, ho6, g6⟩)
            have k2 := k1.then g6
            refine ⟨k2.x, ?_⟩
            refine gv_e hA rfl rfl (fun K hK => ?_)
            go_wp2
            have k3 := k2.alc (.cells #[.int .i64 un, .int .i64 ur, .int .i64 (l.length : Int)] 3)
            refine ⟨k3.x, ?_⟩
            refine gv_e hA rfl rfl (fun K hK => ?_)
            go_wp2_with (go_at_call 41; refine (c6.out _ _ _ (ho6.bys.grw (Grw.alloc _ _)) (ints_three w6 un ur (l.length : Int))).mono ?_; clear c6; rintro e w7 ⟨v7, rfl, hv7, g7⟩)
            have kz := k3.then g7
            refine ⟨kz.x, ?_⟩
            iterate 1 (apply gv_q hA rfl rfl; intro pp; go_simp; rfl; go_simp)
            refine o_nil ?_
            go_wp2
            go_meet
            case rel => exact ⟨hv7, kz⟩
          · go_wp2
            have k2 := k1.alc (.cells #[.int .i64 un, .int .i64 ur, .int .i64 (l.length : Int)] 3)
            refine ⟨k2.x, ?_⟩
            refine gv_e hA rfl rfl (fun K hK => ?_)
            go_wp2_with (go_at_call 44; refine (c5.out _ _ _ (hb5.grw k2) ((kb.out w5.drew).grw (Grw.alloc _ _))).mono ?_; clear c5; rintro e w6 ⟨v6, rfl, ho6, g6⟩)
            have k3 := k2.then g6
            refine ⟨k3.x, ?_⟩
            refine gv_e hA rfl rfl (fun K hK => ?_)
            go_wp2_with (go_at_call 41; refine (c6.out _ _ _ ho6.bys ((ints_three (convW w5.drew nm) un ur (l.length : Int)).grw g6)).mono ?_; clear c6; rintro e w7 ⟨v7, rfl, hv7, g7⟩)
            have kz := k3.then g7
            refine ⟨kz.x, ?_⟩
            iterate 1 (apply gv_q hA rfl rfl; intro pp; go_simp; rfl; go_simp)
            refine o_nil ?_
            go_wp2
            go_meet
            case rel => exact ⟨hv7, kz⟩
        · go_wp2
          have k2 := k0.alc (.cells #[.int .i64 un, .int .i64 ur, .int .i64 (l.length : Int)] 3)
          refine ⟨k2.x, ?_⟩
          refine gv_e hA rfl rfl (fun K hK => ?_)
          go_wp2
          have k3 := k2.then (conv_grw (w5.drew.alloc (.cells #[.int .i64 un, .int .i64 ur, .int .i64 (l.length : Int)] 3)) nm)
          refine ⟨k3.x, ?_⟩
          refine gv_e hA rfl rfl (fun K hK => ?_)
          go_wp2_with (go_at_call 44; refine (c5.out _ _ _ (hb5.grw k3) (kb.out (w5.drew.alloc (.cells #[.int .i64 un, .int .i64 ur, .int .i64 (l.length : Int)] 3)))).mono ?_; clear c5; rintro e w6 ⟨v6, rfl, ho6, g6⟩)
          have k4 := k3.then g6
          refine ⟨k4.x, ?_⟩
          refine gv_e hA rfl rfl (fun K hK => ?_)
          go_wp2_with (go_at_call 41; refine (c6.out _ _ _ ho6.bys ((ints_three w5.drew un ur (l.length : Int)).grw ((conv_grw _ nm).then g6))).mono ?_; clear c6; rintro e w7 ⟨v7, rfl, hv7, g7⟩)
          have kz := k4.then g7
          refine ⟨kz.x, ?_⟩
          iterate 1 (apply gv_q hA rfl rfl; intro pp; go_simp; rfl; go_simp)
          refine o_nil ?_
          go_wp2
          go_meet
          case rel => exact ⟨hv7, kz⟩
      case rest =>
        obtain ⟨hv6, g6⟩ := hcut
        have hg6 := hgw.then g6
        obtain ⟨A5', cap5', e5, _, _, hx5⟩ := (ho5.exts.grw g6).shape
        injection e5 with e51 e52 e53
        subst e51
        clear e52 e53 e1 e2 gsx c5 c6 kc kb b75 hb5 r0 r1
        replace hx5 : Aside (∀ i x, l[i]? = some x → ∃ b off, A5 = some ⟨b, off, none⟩ ∧ wc.cell? ⟨b, off + i * 3, none⟩ = some (.int .i64 x.at_) ∧ wc.cell? ⟨b, off + i * 3 + 1, none⟩ = some (.int .i64 x.len) ∧ wc.cell? ⟨b, off + i * 3 + 2, none⟩ = some (.int .i64 x.slot)) := hx5
        go_wp2
        go_loopg [4, 64] l.length (fun g s4 i wx => ∃ j : Nat, j ≤ l.length ∧ g = l.length - j ∧ i = .int .i64 j ∧ Bys wx s4 (B1 ++ encXs (l.take j)) ∧ Grw wc wx)
        case atStart => exact ⟨0, Nat.zero_le _, rfl, rfl, by simpa [encXs] using hv6, Grw.self _⟩
        case round =>
          clear hv6
          obtain ⟨j, hj, rfl, rfl, hvj, hgj⟩ := hrel
          by_cases hlj : j < l.length
          · obtain ⟨x, hlx⟩ : ∃ x, l[j]? = some x := ⟨l[j], List.getElem?_eq_getElem hlj⟩
            obtain ⟨b2, off2, rfl, p0, p1, p2⟩ := hx5.out j x hlx
            replace p0 := Grw.cell p0 _ hgj
            replace p1 := Grw.cell p1 _ hgj
            replace p2 := Grw.cell p2 _ hgj
            have hone := n8.out x (List.mem_of_getElem? hlx)
            unfold Ext.One at hone
            have hle : (B1 ++ encXs (l.take j)).length ≤ 40000000 := by
              have := encXs_len (l := l.take j) fun y hy => n8.out y (List.mem_of_mem_take hy)
              have h3 : (l.take j).length ≤ 65536 := by rw [List.length_take]; omega
              rw [List.length_append]
              omega
            have c7 := fun (W : World) (v : Value) (hv : Bys W v (B1 ++ encXs (l.take j))) => numbers_any (hv.grw (Grw.alloc W (.cells #[.int .i64 x.at_, .int .i64 x.len, .int .i64 x.slot] 3))) (ints_three W x.at_ x.len x.slot) (by omega) (by simp; omega) (by simp)
            have hnx : B1 ++ encXs (l.take j) ++ encNs [x.at_, x.len, x.slot] = B1 ++ encXs (l.take (j + 1)) := by rw [encXs_take hlx, List.append_assoc]
            rw [hnx] at c7
            have hvb := hvj.grw (Grw.alloc wr (.cells #[.int .i64 x.at_, .int .i64 x.len, .int .i64 x.slot] 105))
            obtain ⟨B2, hB2⟩ : ∃ x, B1 ++ encXs (l.take j) = x := ⟨_, rfl⟩
            obtain ⟨B3, hB3⟩ : ∃ x, B1 ++ encXs (l.take (j + 1)) = x := ⟨_, rfl⟩
            rw [hB2, hB3] at c7
            rw [hB2] at hvb
            have c8 := c7 _ _ hvb
            simp only [World.size_alloc] at c8
            replace hB3 : Aside (B1 ++ encXs (l.take (j + 1)) = B3) := hB3
            clear hlx hx5 hone hnx hB2 hle hvj c7 hvb hA hB7
            go_wp2_with (go_at_call 41; refine c8.mono ?_; clear c8; rintro e w8 ⟨v8, rfl, hv8, g8⟩)
            go_roundg (l.length - (j + 1))
            case measure => omega
            case rel => exact ⟨j + 1, by omega, rfl, rfl, by rw [hB3.out]; exact hv8, ((hgj.alc _).alc _).then g8⟩
          · obtain rfl : j = l.length := by omega
            rw [List.take_length] at hvj
            clear hx5
            go_wp2
            go_roundg (f.vols.length - (k + 1))
            case measure => omega
            case rel => exact ⟨k + 1, by omega, rfl, by simp, by rw [hst.out]; exact hvj, hg6.then hgj⟩
    · obtain rfl : k = f.vols.length := by omega
      clear hxn
      go_wp2
      go_ret
      exact ⟨_, rfl, hby, g1.then hg⟩
end Go.Proofs.YtbfdnfkflnajlaaGreat

/-! mapper: a nil mapper. -/
namespace Go.Proofs.YtbfdnfkflnajlaaGreat
open Go.RowKit Go.Shelf
open Ext hiding One

set_option maxRecDepth 100000 in
set_option maxHeartbeats 1000000 in
theorem nil_trim {s : Value} {a n : Int} {W0 : World} :
    Calls Tryz.prog 22 #[.pointer none, s, .int .i64 a, .int .i64 n] W0 fun e w' => e = .returned (.tuple #[.slice none 0 0, .int .i64 8]) ∧ Grw W0 w' := by
  go_enter Tryz.func22, Tryz.ntmps22
  go_wp2
  exact bodyPost_ret (v := (.tuple #[.slice none 0 0, .int .i64 8])) (by simp [results, Tryz.results22, go_sem]) rfl ⟨rfl, Grw.self _⟩
set_option maxRecDepth 100000 in
set_option maxHeartbeats 1000000 in
theorem nil_create {s : Value} {a n : Int} {W0 : World} :
    Calls Tryz.prog 19 #[.pointer none, s, .int .i64 a, .int .i64 n] W0 fun e w' => e = .returned (.tuple #[.slice none 0 0, .int .i64 8]) ∧ Grw W0 w' := by
  go_enter Tryz.func19, Tryz.ntmps19
  go_wp2
  exact bodyPost_ret (v := (.tuple #[.slice none 0 0, .int .i64 8])) (by simp [results, Tryz.results19, go_sem]) rfl ⟨rfl, Grw.self _⟩
set_option maxRecDepth 100000 in
set_option maxHeartbeats 1000000 in
theorem nil_clone {s t : Value} {W0 : World} :
    Calls Tryz.prog 34 #[.pointer none, s, t] W0 fun e w' => e = .returned (.tuple #[.slice none 0 0, .int .i64 8]) ∧ Grw W0 w' := by
  go_enter Tryz.func34, Tryz.ntmps34
  go_wp2
  exact bodyPost_ret (v := (.tuple #[.slice none 0 0, .int .i64 8])) (by simp [results, Tryz.results34, go_sem]) rfl ⟨rfl, Grw.self _⟩
set_option maxRecDepth 100000 in
set_option maxHeartbeats 1000000 in
theorem nil_delete {s : Value} {W0 : World} :
    Calls Tryz.prog 23 #[.pointer none, s] W0 fun e w' => e = .returned (.tuple #[.slice none 0 0, .int .i64 8]) ∧ Grw W0 w' := by
  go_enter Tryz.func23, Tryz.ntmps23
  go_wp2
  exact bodyPost_ret (v := (.tuple #[.slice none 0 0, .int .i64 8])) (by simp [results, Tryz.results23, go_sem]) rfl ⟨rfl, Grw.self _⟩
set_option maxRecDepth 100000 in
set_option maxHeartbeats 1000000 in
theorem nil_plan {s t : Value} {a : Int} {W0 : World} :
    Calls Tryz.prog 21 #[.pointer none, s, .int .i64 a, t] W0 fun e w' => e = .returned (.tuple #[.slice none 0 0, .slice none 0 0, .int .i64 8]) ∧ Grw W0 w' := by
  go_enter Tryz.func21, Tryz.ntmps21
  go_wp2
  exact bodyPost_ret (v := (.tuple #[.slice none 0 0, .slice none 0 0, .int .i64 8])) (by simp [results, Tryz.results21, go_sem]) rfl ⟨rfl, Grw.self _⟩
set_option maxRecDepth 100000 in
set_option maxHeartbeats 1000000 in
theorem nil_state {W0 : World} :
    Calls Tryz.prog 17 #[.pointer none] W0 fun e w' => e = .returned (.slice none 0 0) ∧ Grw W0 w' := by
  go_enter Tryz.func17, Tryz.ntmps17
  go_wp2
  go_ret
  exact ⟨rfl, Grw.self _⟩
set_option maxRecDepth 100000 in
set_option maxHeartbeats 1000000 in
theorem nil_copy {W0 : World} :
    Calls Tryz.prog 25 #[.pointer none] W0 fun e w' => e = .returned (.pointer none) ∧ Grw W0 w' := by
  go_enter Tryz.func25, Tryz.ntmps25
  go_wp2
  go_ret
  exact ⟨rfl, Grw.self _⟩
set_option maxRecDepth 100000 in
set_option maxHeartbeats 1000000 in
theorem nil_family {W0 : World} :
    Calls Tryz.prog 32 #[.pointer none] W0 fun e w' => e = .returned (famV (.slice none 0 0) none) ∧ Grw W0 w' := by
  go_enter Tryz.func32, Tryz.ntmps32
  go_wp2
  exact bodyPost_ret (v := famV (.slice none 0 0) none) (by simp [results, Tryz.results32, go_sem]) rfl ⟨rfl, Grw.alloc _ _⟩
end Go.Proofs.YtbfdnfkflnajlaaGreat

/-! mapper: must, the reader's number, name, extent. -/
namespace Go.Proofs.YtbfdnfkflnajlaaGreat
open Go.RowKit Go.Shelf
open Ext hiding One

theorem RdAt.up {w w' : World} {p : Nat} {bs : List UInt8} (hg : Grw w w') (h : RdAt w p bs) : RdAt w' p bs := by
  obtain ⟨v, h1, h2⟩ := h
  exact ⟨v, hg.blk h1, h2.grw hg⟩
theorem RdAt.lt {w : World} {p : Nat} {bs : List UInt8} (h : RdAt w p bs) : p < w.heap.size := by
  obtain ⟨v, h1, h2⟩ := h
  exact (Array.getElem?_eq_some_iff.1 h1).1
set_option maxRecDepth 100000 in
set_option maxHeartbeats 1000000 in
theorem must_ok {W0 : World} : Calls Tryz.prog 53 #[.int .i64 0] W0 fun e w' => e = .returned (.tuple #[]) ∧ Grw W0 w' := by
  go_enter Tryz.func53, Tryz.ntmps53
  go_wp2
  exact bodyPost_end (v := .tuple #[]) (by simp [results, Tryz.results53, go_sem]) rfl ⟨rfl, Grw.self _⟩
theorem GrwX.setHi {X : Nat → Prop} {a b : World} (h : GrwX X a b) {n o : Nat} (hn : a.heap.size ≤ n) (v : Value) : GrwX X a (b.setCell ⟨n, o, Option.none⟩ v) :=
  ⟨h.os, h.tape, h.output, by have := h.size; simpa [World.setCell] using this, fun k hk hx => (Below.heap_setCell _ _ _ _ (by simp only; omega)).trans (h.block k hk hx)⟩
theorem RdAt.setInts {w : World} {p b o : Nat} {bs : List UInt8} {C : Array Value} {v : Value} {t : TypeId} {fr : Nat × Nat} (hb : w.heap[b]? = some (.cells C t fr)) (hC : ∀ x ∈ C.toList, ∀ n, x ≠ .int .u8 n) (hne : p ≠ b) (h : RdAt w p bs) : RdAt (w.setCell ⟨b, o, Option.none⟩ v) p bs := by
  obtain ⟨u, h1, h2⟩ := h
  refine ⟨u, by rw [Below.heap_setCell _ _ _ _ (by simpa using hne)]; exact h1, Rows.setOther hb (fun x hx y hy => bytC_ne (hC x hx) hy) h2⟩
abbrev rdV (p : Nat) : Value := .agg #[ptr p]
/-- a value is read. -/
def RetRd (v : Value) (p : Nat) (rest : List UInt8) (w : World) (e : Ending) (w' : World) : Prop := e = .returned v ∧ RdAt w' p rest ∧ GrwX (atP p) w w'
set_option maxRecDepth 100000 in
set_option maxHeartbeats 1000000 in
theorem rnumber_any {p : Nat} {bs rest : List UInt8} {n : Int} {W0 : World} (h : RdAt W0 p bs) (hl : bs.length ≤ 1000000) (hr : readC bs = some (n, rest)) :
    Calls Tryz.prog 102 #[rdV p] W0 (RetRd (.int .i64 n) p rest W0) := by
  have hW := Grw.alloc W0 (.cells #[ptr p] 115)
  have c1 := count_any (h.up hW) hl hr
  have c2 := fun (W : World) => must_ok (W0 := W)
  clear h hr
  go_enter Tryz.func102, Tryz.ntmps102
  go_wp2_with (first
    | (go_at_call 154; refine c1.mono ?_; clear c1; rintro e w1 ⟨rfl, h1, g1⟩)
    | (go_at_call 53; refine (c2 _).mono ?_; clear c2; rintro e w2 ⟨rfl, g2⟩))
  go_ret
  exact ⟨rfl, h1.up g2, (hW.x.then g1).then g2.x⟩
theorem Bys.conv {w : World} {v : Value} {b : List UInt8} (h : Bys w v b) (h0 : b ≠ []) : ∃ A cap, v = .slice A b.length cap ∧ ∀ B, Grw w B → (convert 33 9 v).run Tryz.prog B = .ok (strV b) B := by
  have hh := h
  obtain ⟨h1, h2⟩ := h
  rcases h2 with ⟨rfl, hz⟩ | ⟨bb, off, cap, rfl, hc, hm, hcell⟩
  · exact absurd (List.eq_nil_of_length_eq_zero hz) h0
  · refine ⟨_, cap, rfl, fun B hB => ?_⟩
    exact run_convert_bytes_back B 33 9 5 ⟨bb, off, Option.none⟩ cap b (by kernel_rfl) (by kernel_rfl) (by kernel_rfl) fun j hj => by
      rw [addr_add]
      exact Grw.cell (hcell j _ (by simp [bytC, hj])) _ hB
set_option maxRecDepth 100000 in
set_option maxHeartbeats 1000000 in
theorem rname_any {p : Nat} {bs b rest : List UInt8} {W0 : World} (h : RdAt W0 p bs) (hl : bs.length ≤ 1000000) (hr : readB bs = some (b, rest)) (h0 : b ≠ []) :
    Calls Tryz.prog 101 #[rdV p] W0 (RetRd (strV b) p rest W0) := by
  have hW := Grw.alloc W0 (.cells #[ptr p] 115)
  have c1 := bytes_any (h.up hW) hl hr
  have c2 := fun (W : World) => must_ok (W0 := W)
  clear h hr
  go_enter Tryz.func101, Tryz.ntmps101
  go_wp2_with (first
    | (go_at_call 153; refine c1.mono ?_; clear c1; rintro e w1 ⟨v1, rfl, hv, h1, g1⟩; obtain ⟨A1, cap1, rfl, kc⟩ := hv.conv h0)
    | (go_at_call 53; refine (c2 _).mono ?_; clear c2; rintro e w2 ⟨rfl, g2⟩; have kd := kc _ g2; clear kc))
  go_ret
  exact ⟨rfl, h1.up g2, (hW.x.then g1).then g2.x⟩
set_option maxRecDepth 100000 in
set_option maxHeartbeats 2000000 in
theorem rextent_any {p : Nat} {bs r1 r2 rest : List UInt8} {x : Ext} {W0 : World} (h : RdAt W0 p bs) (hl : bs.length ≤ 1000000) (h1 : readC bs = some (x.at_, r1)) (h2 : readC r1 = some (x.len, r2)) (h3 : readC r2 = some (x.slot, rest)) (hl1 : r1.length ≤ 1000000) (hl2 : r2.length ≤ 1000000) :
    Calls Tryz.prog 104 #[rdV p] W0 (RetRd (extV x) p rest W0) := by
  have hp := h.lt
  have hW := (Grw.alloc W0 (.cells #[ptr p] 115)).alc (.cells #[.int .i64 0, .int .i64 0, .int .i64 0] 105)
  have b1 : ((W0.alloc (.cells #[ptr p] 115)).alloc (.cells #[.int .i64 0, .int .i64 0, .int .i64 0] 105)).heap[W0.heap.size]? = some (.cells #[ptr p] 115 (0, 0)) := (Grw.alloc _ _).blk (alloc_blk _ _)
  have b2 := alloc2_blk W0 (.cells #[ptr p] 115) (.cells #[.int .i64 0, .int .i64 0, .int .i64 0] 105)
  have hR := h.up hW
  have c1 := fun (W : World) (hr : RdAt W p bs) => rnumber_any hr hl h1
  have c2 := fun (W : World) (hr : RdAt W p r1) => rnumber_any hr hl1 h2
  have c3 := fun (W : World) (hr : RdAt W p r2) => rnumber_any hr hl2 h3
  unfold extV
  clear h h1 h2 h3 hl hl1 hl2
  go_enter Tryz.func104, Tryz.ntmps104
  go_upto_region 1 with (fail)
  generalize (W0.alloc (.cells #[ptr p] 115)).alloc (.cells #[.int .i64 0, .int .i64 0, .int .i64 0] 105) = W at hW b1 b2 hR ⊢
  have e0 := GrwX.cells (X := atP p) b1 (by unfold atP; omega) 0
  simp only [List.getElem?_toArray, List.getElem?_cons_succ, List.getElem?_cons_zero] at e0
  have gsx := GrwX.self (atP p) W
  have k0 := (Grw.drw W).x (X := atP p)
  refine gx_region (atP p) [(0, true), (2, true), (1, false), (3, false), (4, true), (5, true)] (by kernel_rfl) (by kernel_rfl) (fun c a d v w1 h => by cases d <;> exact h) ?_
  intro A hA
  iterate 2 (apply gx_q hA rfl rfl; intro pp; go_simp; rfl; go_simp)
  refine gx_e hA rfl rfl (fun K hK => ?_)
  go_wp2_with (go_at_call 102; refine (c1 _ (hR.up (Grw.drw W))).mono ?_; clear c1; rintro e w1 ⟨rfl, q1, g1⟩)
  have k1 := k0.then g1
  refine ⟨k1, ?_⟩
  refine gx_e hA rfl rfl (fun K hK => ?_)
  go_wp2_with (go_at_call 102; refine (c2 _ q1).mono ?_; clear c2; rintro e w2 ⟨rfl, q2, g2⟩)
  have k2 := k1.then g2
  refine ⟨k2, ?_⟩
  iterate 2 (apply gx_q hA rfl rfl; intro pp; go_simp; rfl; go_simp)
  refine pi_nil ?_
  have d0 := e0 w2 k2
  clear e0 gsx
  go_wp2_with (go_at_call 102; refine (c3 _ q2).mono ?_; clear c3; rintro e w3 ⟨rfl, q3, g3⟩; have k3 := k2.then g3; have b5 := k3.blk b2 (by unfold atP; omega); have f0 := blk_free b5 0; have f1 := blk_free b5 1; have f2 := blk_free b5 2; obtain ⟨d1, d2, d3⟩ := (⟨blk_cell b5 0, blk_cell b5 1, blk_cell b5 2⟩ : _ ∧ _ ∧ _); simp only [List.getElem?_toArray, List.getElem?_cons_succ, List.getElem?_cons_zero] at d1 d2 d3)
  have c0 := setCell_blk b5 0 (.int .i64 x.at_)
  have c4 := setCell_blk c0 1 (.int .i64 x.len)
  have c5 := setCell_blk c4 2 (.int .i64 x.slot)
  have q4 := RdAt.setInts (o := 0) (v := .int .i64 x.at_) b5 (by simp) (by omega) q3
  have q5 := RdAt.setInts (o := 1) (v := .int .i64 x.len) c0 (by simp) (by omega) q4
  have q6 := RdAt.setInts (o := 2) (v := .int .i64 x.slot) c4 (by simp) (by omega) q5
  have z0 := blk_cell c5 0
  have z1 := blk_cell c5 1
  have z2 := blk_cell c5 2
  simp at z0 z1 z2
  have gz := ((((hW.x (X := atP p)).then k3).setHi (n := W0.heap.size + 1) (o := 0) (by omega) (.int .i64 x.at_)).setHi (n := W0.heap.size + 1) (o := 1) (by omega) (.int .i64 x.len)).setHi (n := W0.heap.size + 1) (o := 2) (by omega) (.int .i64 x.slot)
  refine bodyPost_ret (v := .agg #[.int .i64 x.at_, .int .i64 x.len, .int .i64 x.slot]) (by simp [results, Tryz.results104, go_sem, z0, z1, z2]) rfl ⟨rfl, q6, gz⟩
end Go.Proofs.YtbfdnfkflnajlaaGreat

/-! mapper: the change 'create'. -/
namespace Go.Proofs.YtbfdnfkflnajlaaGreat
open Go.RowKit Go.Shelf
open Ext hiding One

theorem grw_x {Wm w w' : World} {p : Nat} (h : Grw Wm w) (g : GrwX (atP p) w w') (hp : Wm.heap.size ≤ p) : Grw Wm w' := by
  have h' : Below Wm.heap.size Wm w := h
  refine show Below _ _ _ from ⟨g.os.trans (Below.os h), g.tape.trans (Below.tape h), g.output.trans (Below.output h), Nat.le_trans (Below.size h) g.size, fun i hi => ?_⟩
  exact (g.block i (Nat.lt_of_lt_of_le hi (Below.size h)) (by unfold atP; omega)).trans (Below.block h i hi)
theorem GrwX.wide {X Y : Nat → Prop} {a b : World} (h : GrwX X a b) (hxy : ∀ k, X k → Y k) : GrwX Y a b :=
  ⟨h.os, h.tape, h.output, h.size, fun k hk hx => h.block k hk fun hp => hx (hxy k hp)⟩
/-- the reader's block, and a block of one's own. -/
abbrev atPB (p b : Nat) : Nat → Prop := fun k => k = p ∨ k = b
/-- what a change hands back. -/
def RetCh (x : Except Int Fam) (p : Nat) (rest : List UInt8) (w w0 : World) (e : Ending) (w' : World) : Prop :=
  ∃ s mp g, e = .returned (.tuple #[famV s mp, .int .i64 (errE x)]) ∧ FamR w' (famV s mp) g ∧ (∀ g', x = .ok g' → g = g') ∧ RdAt w' p rest ∧ Grw w w' ∧ GrwX (atP p) w0 w'
theorem RetEx.any2 {x : Except Int Fam} {w w' : World} {e : Ending} (h : RetEx x w e w') : ∃ g, RetFE g (errE x) w e w' ∧ ∀ g', x = .ok g' → g = g' := by
  cases x with
  | ok g => exact ⟨g, h, fun g' e => by injection e⟩
  | error k => exact ⟨fam0, h, fun g' e => by cases e⟩
set_option maxRecDepth 100000 in
set_option maxHeartbeats 4000000 in
theorem ch_create_any {Wm W0 : World} {v : Value} {f : Fam} {p : Nat} {bs r1 r2 rest nm : List UInt8} {n r : Int} (hm : Grw Wm W0) (hF : FamR Wm v f) (hf : f.WF) (hp : Wm.heap.size ≤ p) (hR : RdAt W0 p bs)
    (h1 : readB bs = some (nm, r1)) (h2 : readC r1 = some (n, r2)) (h3 : readC r2 = some (r, rest)) (hnm : nm ≠ []) (hl : bs.length ≤ 1000000) (hl1 : r1.length ≤ 1000000) (hl2 : r2.length ≤ 1000000) (hnl : nm.length ≤ 1000000) :
    Calls Tryz.prog 106 #[v, rdV p] W0 (RetCh (f.create nm n r) p rest Wm W0) := by
  have hF0 := hF
  obtain ⟨s, mp, rfl, hs, hmF⟩ := hF
  obtain ⟨A, cap, rfl, -, -, -⟩ := hs.shape
  have hpl := hR.lt
  have hms := hm.size
  have hW := ((Grw.alloc W0 (.cells #[.slice A f.cs.length cap, .map mp] 76)).alc (.cells #[ptr p] 115)).alc (.cells #[.slice none 0 0, .map none] 76)
  have b2 : (((W0.alloc (.cells #[.slice A f.cs.length cap, .map mp] 76)).alloc (.cells #[ptr p] 115)).alloc (.cells #[.slice none 0 0, .map none] 76)).heap[W0.heap.size]? = some (.cells #[.slice A f.cs.length cap, .map mp] 76 (0, 0)) := ((Grw.alloc _ _).alc _).blk (alloc_blk _ _)
  have b3 : (((W0.alloc (.cells #[.slice A f.cs.length cap, .map mp] 76)).alloc (.cells #[ptr p] 115)).alloc (.cells #[.slice none 0 0, .map none] 76)).heap[W0.heap.size + 1]? = some (.cells #[ptr p] 115 (0, 0)) := (Grw.alloc _ _).blk (by have := alloc_blk (W0.alloc (.cells #[.slice A f.cs.length cap, .map mp] 76)) (.cells #[ptr p] 115); simpa only [World.size_alloc] using this)
  have b4 : (((W0.alloc (.cells #[.slice A f.cs.length cap, .map mp] 76)).alloc (.cells #[ptr p] 115)).alloc (.cells #[.slice none 0 0, .map none] 76)).heap[W0.heap.size + 1 + 1]? = some (.cells #[.slice none 0 0, .map none] 76 (0, 0)) := by have := alloc_blk ((W0.alloc (.cells #[.slice A f.cs.length cap, .map mp] 76)).alloc (.cells #[ptr p] 115)) (.cells #[.slice none 0 0, .map none] 76); simpa only [World.size_alloc] using this
  have hRW := hR.up hW
  have hmW := hm.then hW
  have c1 := fun (W : World) (hr : RdAt W p bs) => rname_any hr hl h1 hnm
  have c2 := fun (W : World) (hr : RdAt W p r1) => rnumber_any hr hl1 h2
  have c3 := fun (W : World) (hr : RdAt W p r2) => rnumber_any hr hl2 h3
  have c4 := fun (W : World) (hg : Grw Wm W) => create_any (nm := nm) (n := n) (r := r) (hF0.grw hg) hf hnl
  clear hF0 hf h1 h2 h3 hl hl1 hl2 hnl hs hmF hR hm
  generalize hX : f.create nm n r = X at *
  clear hX
  generalize f.cs.length = CL at *
  go_enter Tryz.func106, Tryz.ntmps106
  go_upto_region 1 with (fail)
  generalize ((W0.alloc (.cells #[.slice A CL cap, .map mp] 76)).alloc (.cells #[ptr p] 115)).alloc (.cells #[.slice none 0 0, .map none] 76) = W at hW b2 b3 b4 hRW hmW ⊢
  have e0 := GrwX.cells (X := atP p) b3 (by unfold atP; omega) 0
  simp only [List.getElem?_toArray, List.getElem?_cons_succ, List.getElem?_cons_zero] at e0
  have gsx := GrwX.self (atP p) W
  have k0 := (Grw.drw W).x (X := atP p)
  refine gx_region (atP p) [(0, true), (2, true), (1, false), (3, false), (4, true), (5, true)] (by kernel_rfl) (by kernel_rfl) (fun c a d v w1 h => by cases d <;> exact h) ?_
  intro A hA
  iterate 2 (apply gx_q hA rfl rfl; intro pp; go_simp; rfl; go_simp)
  refine gx_e hA rfl rfl (fun K hK => ?_)
  go_wp2_with (go_at_call 101; refine (c1 _ (hRW.up (Grw.drw W))).mono ?_; clear c1; rintro e w1 ⟨rfl, q1, g1⟩)
  have k1 := k0.then g1
  refine ⟨k1, ?_⟩
  refine gx_e hA rfl rfl (fun K hK => ?_)
  go_wp2_with (go_at_call 102; refine (c2 _ q1).mono ?_; clear c2; rintro e w2 ⟨rfl, q2, g2⟩)
  have k2 := k1.then g2
  refine ⟨k2, ?_⟩
  iterate 2 (apply gx_q hA rfl rfl; intro pp; go_simp; rfl; go_simp)
  refine pi_nil ?_
  go_upto_region 2 with (fail)
  have hm2 := grw_x hmW k2 hp
  have d2 := k2.blk b2 (by unfold atP; omega)
  have d3 := k2.blk b3 (by unfold atP; omega)
  have d4 := k2.blk b4 (by unfold atP; omega)
  have hsz2 : W0.heap.size + 1 + 1 < w2.heap.size := (Array.getElem?_eq_some_iff.1 d4).1
  have e1 := GrwX.cells (X := atPB p (W0.heap.size + 1 + 1)) d2 (by unfold atPB; omega) 0
  have e2 := GrwX.cells (X := atPB p (W0.heap.size + 1 + 1)) d2 (by unfold atPB; omega) 1
  have e3 := GrwX.cells (X := atPB p (W0.heap.size + 1 + 1)) d3 (by unfold atPB; omega) 0
  simp only [List.getElem?_toArray, List.getElem?_cons_succ, List.getElem?_cons_zero] at e1 e2 e3
  have gsy := GrwX.self (atPB p (W0.heap.size + 1 + 1)) w2
  have j0 := (Grw.drw w2).x (X := atP p)
  clear e0 gsx b2 b3 b4 hA
  refine gx_region (atPB p (W0.heap.size + 1 + 1)) [(0, true), (1, true), (2, true), (3, true), (4, false), (5, false), (6, true), (7, true), (8, false), (9, true)] (by kernel_rfl) (by kernel_rfl) (fun c a d v w1 h => by cases d <;> exact h) ?_
  intro A hA
  iterate 4 (apply gx_q hA rfl rfl; intro pp; go_simp; rfl; go_simp)
  refine gx_e hA rfl rfl (fun K hK => ?_)
  go_wp2_with (go_at_call 102; refine (c3 _ (q2.up (Grw.drw w2))).mono ?_; clear c3; rintro e w3 ⟨rfl, q3, g3⟩)
  have j3 := j0.then g3
  have hm3 := grw_x hm2 j3 hp
  refine ⟨j3.wide (fun k h => .inl h), ?_⟩
  refine gx_e hA rfl rfl (fun K hK => ?_)
  go_wp2_with (go_at_call 45; refine (c4 _ hm3).mono ?_; clear c4; rintro e w4 hR; obtain ⟨g, ⟨s1, mp1, rfl, hF1, g4⟩, hgg⟩ := RetEx.any2 hR; obtain ⟨A1, cap1, rfl⟩ := hF1.sl; clear hR)
  have j4 := j3.then g4.x
  have hm4 := hm3.then g4
  refine ⟨j4.wide (fun k h => .inl h), ?_⟩
  iterate 2 (apply gx_q hA rfl rfl; intro pp; go_simp; rfl; go_simp)
  have d6 := j4.blk d4 (by unfold atP; omega)
  obtain ⟨f0, f1, f2, f3⟩ := res_facts d6
  have q4 := q3.up g4
  refine gx_e hA rfl rfl (fun K hK => ?_)
  go_wp2
  refine ⟨((j4.wide (Y := atPB p (W0.heap.size + 1 + 1)) (fun k h => .inl h)).set (p := ⟨W0.heap.size + 1 + 1, 0, none⟩) (.inr rfl) _).set (p := ⟨W0.heap.size + 1 + 1, 1, none⟩) (.inr rfl) _, ?_⟩
  iterate 1 (apply gx_q hA rfl rfl; intro pp; go_simp; rfl; go_simp)
  refine pi_nil ?_
  go_wp2
  obtain ⟨hi1, hm1⟩ := hF1.parts
  obtain ⟨q0, q1, hr, g9⟩ := ret_fam (w0 := Wm) d6 hm4 (by omega) hi1 hm1
  have c0 := setCell_blk d6 0 (.slice A1 g.cs.length cap1)
  have q5 := RdAt.setInts (o := 0) (v := .slice A1 g.cs.length cap1) d6 (by simp) (by omega) q4
  have q6 := RdAt.setInts (o := 1) (v := .map mp1) c0 (by simp) (by omega) q5
  have gz := (((hW.x (X := atP p)).then (k2.then j4)).setHi (n := W0.heap.size + 1 + 1) (o := 0) (by omega) (.slice A1 g.cs.length cap1)).setHi (n := W0.heap.size + 1 + 1) (o := 1) (by omega) (.map mp1)
  refine bodyPost_ret (v := .tuple #[famV (.slice A1 g.cs.length cap1) mp1, .int .i64 (errE X)]) (by simp [results, Tryz.results106, go_sem, q0, q1]) rfl ⟨_, _, g, rfl, hr, hgg, q6, g9, gz⟩
end Go.Proofs.YtbfdnfkflnajlaaGreat

/-! mapper: the changes 'clone', 'delete', 'unmap'. -/
namespace Go.Proofs.YtbfdnfkflnajlaaGreat
open Go.RowKit Go.Shelf
open Ext hiding One

set_option maxRecDepth 100000 in
set_option maxHeartbeats 4000000 in
theorem ch_clone_any {Wm W0 : World} {v : Value} {f : Fam} {p : Nat} {bs r1 rest nm ot : List UInt8} (hm : Grw Wm W0) (hF : FamR Wm v f) (hf : f.WF) (hp : Wm.heap.size ≤ p) (hR : RdAt W0 p bs)
    (h1 : readB bs = some (nm, r1)) (h2 : readB r1 = some (ot, rest)) (hnm : nm ≠ []) (hot : ot ≠ []) (hl : bs.length ≤ 1000000) (hl1 : r1.length ≤ 1000000) (hnl : nm.length ≤ 1000000) (hol : ot.length ≤ 1000000) :
    Calls Tryz.prog 107 #[v, rdV p] W0 (RetCh (f.clone nm ot) p rest Wm W0) := by
  have hF0 := hF
  obtain ⟨s, mp, rfl, hs, hmF⟩ := hF
  obtain ⟨A, cap, rfl, -, -, -⟩ := hs.shape
  have hpl := hR.lt
  have hms := hm.size
  have hW := ((Grw.alloc W0 (.cells #[.slice A f.cs.length cap, .map mp] 76)).alc (.cells #[ptr p] 115)).alc (.cells #[.slice none 0 0, .map none] 76)
  have b2 : (((W0.alloc (.cells #[.slice A f.cs.length cap, .map mp] 76)).alloc (.cells #[ptr p] 115)).alloc (.cells #[.slice none 0 0, .map none] 76)).heap[W0.heap.size]? = some (.cells #[.slice A f.cs.length cap, .map mp] 76 (0, 0)) := ((Grw.alloc _ _).alc _).blk (alloc_blk _ _)
  have b3 : (((W0.alloc (.cells #[.slice A f.cs.length cap, .map mp] 76)).alloc (.cells #[ptr p] 115)).alloc (.cells #[.slice none 0 0, .map none] 76)).heap[W0.heap.size + 1]? = some (.cells #[ptr p] 115 (0, 0)) := (Grw.alloc _ _).blk (by have := alloc_blk (W0.alloc (.cells #[.slice A f.cs.length cap, .map mp] 76)) (.cells #[ptr p] 115); simpa only [World.size_alloc] using this)
  have b4 : (((W0.alloc (.cells #[.slice A f.cs.length cap, .map mp] 76)).alloc (.cells #[ptr p] 115)).alloc (.cells #[.slice none 0 0, .map none] 76)).heap[W0.heap.size + 1 + 1]? = some (.cells #[.slice none 0 0, .map none] 76 (0, 0)) := by have := alloc_blk ((W0.alloc (.cells #[.slice A f.cs.length cap, .map mp] 76)).alloc (.cells #[ptr p] 115)) (.cells #[.slice none 0 0, .map none] 76); simpa only [World.size_alloc] using this
  have hRW := hR.up hW
  have hmW := hm.then hW
  have c1 := fun (W : World) (hr : RdAt W p bs) => rname_any hr hl h1 hnm
  have c3 := fun (W : World) (hr : RdAt W p r1) => rname_any hr hl1 h2 hot
  have c4 := fun (W : World) (hg : Grw Wm W) => clone_any (nm := nm) (other := ot) (hF0.grw hg) hf hnl hol
  clear hF0 hf h1 h2 hl hl1 hnl hol hs hmF hR hm
  generalize hX : f.clone nm ot = X at *
  clear hX
  generalize f.cs.length = CL at *
  go_enter Tryz.func107, Tryz.ntmps107
  have z0 := blk_cell b3 0
  simp only [List.getElem?_toArray, List.getElem?_cons_succ, List.getElem?_cons_zero] at z0
  go_upto_region 2 with (go_at_call 101; refine (c1 _ hRW).mono ?_; clear c1; rintro e w2 ⟨rfl, q2, k2⟩)
  generalize ((W0.alloc (.cells #[.slice A CL cap, .map mp] 76)).alloc (.cells #[ptr p] 115)).alloc (.cells #[.slice none 0 0, .map none] 76) = W at hW b2 b3 b4 hRW hmW k2 z0 ⊢
  have hm2 := grw_x hmW k2 hp
  have d2 := k2.blk b2 (by unfold atP; omega)
  have d3 := k2.blk b3 (by unfold atP; omega)
  have d4 := k2.blk b4 (by unfold atP; omega)
  have hsz2 : W0.heap.size + 1 + 1 < w2.heap.size := (Array.getElem?_eq_some_iff.1 d4).1
  have e1 := GrwX.cells (X := atPB p (W0.heap.size + 1 + 1)) d2 (by unfold atPB; omega) 0
  have e2 := GrwX.cells (X := atPB p (W0.heap.size + 1 + 1)) d2 (by unfold atPB; omega) 1
  have e3 := GrwX.cells (X := atPB p (W0.heap.size + 1 + 1)) d3 (by unfold atPB; omega) 0
  simp only [List.getElem?_toArray, List.getElem?_cons_succ, List.getElem?_cons_zero] at e1 e2 e3
  have gsy := GrwX.self (atPB p (W0.heap.size + 1 + 1)) w2
  have j0 := (Grw.drw w2).x (X := atP p)
  clear b2 b3 b4 z0
  refine gx_region (atPB p (W0.heap.size + 1 + 1)) [(0, true), (1, true), (2, true), (3, false), (4, false), (5, true), (6, true), (7, false), (8, true)] (by kernel_rfl) (by kernel_rfl) (fun c a d v w1 h => by cases d <;> exact h) ?_
  intro A hA
  iterate 3 (apply gx_q hA rfl rfl; intro pp; go_simp; rfl; go_simp)
  refine gx_e hA rfl rfl (fun K hK => ?_)
  go_wp2_with (go_at_call 101; refine (c3 _ (q2.up (Grw.drw w2))).mono ?_; clear c3; rintro e w3 ⟨rfl, q3, g3⟩)
  have j3 := j0.then g3
  have hm3 := grw_x hm2 j3 hp
  refine ⟨j3.wide (fun k h => .inl h), ?_⟩
  refine gx_e hA rfl rfl (fun K hK => ?_)
  go_wp2_with (go_at_call 76; refine (c4 _ hm3).mono ?_; clear c4; rintro e w4 hR; obtain ⟨g, ⟨s1, mp1, rfl, hF1, g4⟩, hgg⟩ := RetEx.any2 hR; obtain ⟨A1, cap1, rfl⟩ := hF1.sl; clear hR)
  have j4 := j3.then g4.x
  have hm4 := hm3.then g4
  refine ⟨j4.wide (fun k h => .inl h), ?_⟩
  iterate 2 (apply gx_q hA rfl rfl; intro pp; go_simp; rfl; go_simp)
  have d6 := j4.blk d4 (by unfold atP; omega)
  obtain ⟨f0, f1, f2, f3⟩ := res_facts d6
  have q4 := q3.up g4
  refine gx_e hA rfl rfl (fun K hK => ?_)
  go_wp2
  refine ⟨((j4.wide (Y := atPB p (W0.heap.size + 1 + 1)) (fun k h => .inl h)).set (p := ⟨W0.heap.size + 1 + 1, 0, none⟩) (.inr rfl) _).set (p := ⟨W0.heap.size + 1 + 1, 1, none⟩) (.inr rfl) _, ?_⟩
  iterate 1 (apply gx_q hA rfl rfl; intro pp; go_simp; rfl; go_simp)
  refine pi_nil ?_
  go_wp2
  obtain ⟨hi1, hm1⟩ := hF1.parts
  obtain ⟨q0, q1, hr, g9⟩ := ret_fam (w0 := Wm) d6 hm4 (by omega) hi1 hm1
  have c0 := setCell_blk d6 0 (.slice A1 g.cs.length cap1)
  have q5 := RdAt.setInts (o := 0) (v := .slice A1 g.cs.length cap1) d6 (by simp) (by omega) q4
  have q6 := RdAt.setInts (o := 1) (v := .map mp1) c0 (by simp) (by omega) q5
  have gz := (((hW.x (X := atP p)).then (k2.then j4)).setHi (n := W0.heap.size + 1 + 1) (o := 0) (by omega) (.slice A1 g.cs.length cap1)).setHi (n := W0.heap.size + 1 + 1) (o := 1) (by omega) (.map mp1)
  refine bodyPost_ret (v := .tuple #[famV (.slice A1 g.cs.length cap1) mp1, .int .i64 (errE X)]) (by simp [results, Tryz.results107, go_sem, q0, q1]) rfl ⟨_, _, g, rfl, hr, hgg, q6, g9, gz⟩
end Go.Proofs.YtbfdnfkflnajlaaGreat
