/-
  family: Assign. family: Clone. family: Delete.
-/
import Derived.Test.YtbfdnfkflnajlaaGreatJ17
import Derived.Deep.Cut
set_option linter.unusedVariables false
set_option linter.unusedSimpArgs false
/-! family: Assign. -/
namespace Go.Proofs.YtbfdnfkflnajlaaGreat
open Go.RowKit Go.Shelf
open Ext hiding One

/-- a store at a place that holds what no element is. -/
theorem Rows.setAt {w : World} {k n : Nat} {v u v' : Value} {cs : List Value} {a : Addr} (hc : w.cell? a = some u) (hu : ∀ y ∈ cs, u ≠ y) (h : Rows w k v n cs) : Rows (w.setCell a v') k v n cs := by
  refine ⟨h.1, h.2.imp id ?_⟩
  rintro ⟨b, off, cap, hv, h1, h2, h3⟩
  refine ⟨b, off, cap, hv, h1, h2, fun j y hy => ?_⟩
  have hj := h3 j y hy
  rw [World.cell?_setCell_other]
  · exact hj
  · rintro rfl
    rw [hc] at hj
    injection hj with hj
    exact hu y (List.mem_of_getElem? hy) hj
theorem Ints.setAt {w : World} {s u v' : Value} {cs : List Int} {a : Addr} (hc : w.cell? a = some u) (hu : ∀ c, u ≠ .int .i64 c) (h : Ints w s cs) : Ints (w.setCell a v') s cs :=
  Rows.setAt hc (fun y hy => by obtain ⟨c, _, rfl⟩ := List.mem_map.1 hy; exact hu c) h
theorem Exts.setAt {w : World} {s u v' : Value} {l : List Ext} {a : Addr} (hc : w.cell? a = some u) (hu : ∀ c, u ≠ .int .i64 c) (h : Exts w s l) : Exts (w.setCell a v') s l :=
  Rows.setAt hc (fun y hy => by
    obtain ⟨cs, hcs, e⟩ := List.mem_flatten.1 hy
    obtain ⟨z, _, rfl⟩ := List.mem_map.1 hcs
    simp only [extC, List.mem_cons, List.not_mem_nil, or_false] at e
    rcases e with rfl | rfl | rfl <;> exact hu _) h
theorem ext_plain {w : World} {b : Nat} {x : Ext} {t : TypeId} {fr : Nat × Nat} (h : w.heap[b]? = some (.cells #[.int .i64 x.at_, .int .i64 x.len, .int .i64 x.slot] t fr)) :
    w.cell? ⟨b, 0, none⟩ = some (.int .i64 x.at_) ∧ w.cell? ⟨b, 1, none⟩ = some (.int .i64 x.len) ∧ w.cell? ⟨b, 2, none⟩ = some (.int .i64 x.slot) := ⟨blk_cell h 0, blk_cell h 1, blk_cell h 2⟩
theorem perm_one {N : Nat} {x : Ext} : permB N [x] = true ↔ 1 ≤ x.len ∧ 0 ≤ x.slot ∧ x.slot + x.len ≤ N := by
  unfold permB inN
  simp only [List.all_cons, List.all_nil, Bool.and_true, decide_eq_true_eq]
  omega
set_option maxRecDepth 100000 in
set_option maxHeartbeats 2000000 in
theorem assign_any {v : Value} {f : Fam} {nm : List UInt8} {x : Ext} {W0 : World} (h : FamR W0 v f) (hf : f.WF) (hnm : nm.length ≤ 1000000) (hx1 : smallI x.at_) (hx2 : smallI x.len) (hx3 : smallI x.slot) :
    Calls Tryz.prog 103 #[v, strV nm, extV x] W0 (RetExD (f.assign nm x) W0) := by
  have h0 := h
  obtain ⟨s, mp, rfl, hs, hm⟩ := h
  obtain ⟨A, cap, rfl, -, -, -⟩ := hs.shape
  have hcsl := Fam.cs_length f
  obtain ⟨CL, hCL⟩ : ∃ CL, f.cs.length = CL := ⟨_, rfl⟩
  rw [hCL] at hs h0 hcsl ⊢
  replace hcsl : Aside (CL = f.slots) := hcsl
  unfold extV
  obtain ⟨L0, hL0⟩ : ∃ L0, ((W0.alloc (.cells #[.slice A CL cap, .map mp] 76)).alloc (.cells #[.int .i64 x.at_, .int .i64 x.len, .int .i64 x.slot] 105)).alloc (.cells #[.slice none 0 0, .map none] 76) = L0 := ⟨_, rfl⟩
  have hW : Grw W0 L0 := by rw [← hL0]; exact ((Grw.alloc W0 _).alc _).alc _
  have b3 : L0.heap[W0.heap.size]? = some (.cells #[.slice A CL cap, .map mp] 76 (0, 0)) := by rw [← hL0]; exact (Grw.alloc _ _).blk ((Grw.alloc _ _).blk (alloc_blk _ _))
  have b5 : L0.heap[W0.heap.size + 1]? = some (.cells #[.int .i64 x.at_, .int .i64 x.len, .int .i64 x.slot] 105 (0, 0)) := by rw [← hL0]; exact (Grw.alloc _ _).blk (alloc2_blk W0 _ _)
  have b6 : L0.heap[W0.heap.size + 1 + 1]? = some (.cells #[.slice none 0 0, .map none] 76 (0, 0)) := by
    have := alloc_blk ((W0.alloc (.cells #[.slice A CL cap, .map mp] 76)).alloc (.cells #[.int .i64 x.at_, .int .i64 x.len, .int .i64 x.slot] 105)) (.cells #[.slice none 0 0, .map none] 76)
    rw [← hL0]
    simpa only [World.size_alloc] using this
  have hL1 := hL0.symm
  clear hL0
  have c1 := find_fam (a := x.at_) (k := x.len) (h0.grw hW) hf hnm hx1
  have bad : ∀ k : Int, k ≠ 0 → Calls Tryz.prog 88 #[famV (.slice A CL cap) mp, strV nm, .int .i64 x.at_, .int .i64 x.len] L0 (RetFind 0 0 none k L0) →
      Calls Tryz.prog 103 #[famV (.slice A CL cap) mp, strV nm, .agg #[.int .i64 x.at_, .int .i64 x.len, .int .i64 x.slot]] W0 (RetFD fam0 k W0) := by
    intro k hk c1
    subst hL1
    clear hm hs h0
    have hk' : (k == 0) = false := by simpa using hk
    go_enter Tryz.func103, Tryz.ntmps103
    go_wp2_with (go_at_call 88; refine c1.mono ?_; clear c1; rintro e w1 ⟨rfl, g1⟩; have g1a := g1.alc (.cells #[.int .i64 0, .int .i64 0, .pointer none] 170); have v6 := (Grw.alloc w1 (.cells #[.int .i64 0, .int .i64 0, .pointer none] 170)).blk (g1.blk b6); obtain ⟨f80, f81, r80, r81⟩ := res_facts v6)
    obtain ⟨q0, q1, hr, g5⟩ := ret_zero (w0 := W0) v6 (hW.then g1a) (by omega)
    refine bodyPost_ret (v := .tuple #[famV (.slice none 0 0) none, .slice none 0 0, .int .i64 k]) (by simp [results, Tryz.results103, go_sem, q0, q1]) rfl ⟨_, _, _, _, rfl, hr, Exts.empty _, g5⟩
  unfold Fam.assign
  rcases c1 with ⟨hg, c1⟩ | ⟨u, p, t, hu, ht, htl, c1⟩
  · rw [hg]
    exact bad 9 (by decide) c1
  · rw [hu]
    simp only
    have hum := hf.vols u (getV_some hu).1
    have hn6 := hum.2.2.1
    have hslots := hf.slots
    by_cases hb : hasB u.n x.at_ x.len = true
    · rw [if_pos hb] at c1
      have hb' := hasB_iff.1 hb
      clear bad
      have c2 := fun (W : World) (v : Value) (hg : Grw W0 W) (hv : Exts W v [x]) => add_any hv (hs.grw hg) (fun y hy => by rw [List.mem_singleton.1 hy]; unfold smallI at hx3; omega) (by rw [Fam.cs_length]; omega) (by simp) (cs_small hf)
      rw [Fam.cs_length] at c2
      by_cases hp : permB f.slots [x] = true
      · have hp' := perm_one.1 hp
        have hcond : 0 ≤ x.at_ ∧ 1 ≤ x.len ∧ x.at_ + x.len ≤ u.n ∧ 0 ≤ x.slot ∧ x.slot + x.len ≤ f.slots := ⟨hb'.1, hp'.1, hb'.2.2, hp'.2.1, hp'.2.2⟩
        rw [if_pos hcond]
        simp only [hp, if_true] at c2
        have hnf := hum.2.2.2.2.2.1
        have hxo : x.One := assign_one hf (getV_some hu).1 hcond
        have hG : f.assign nm x = .ok (f.put ⟨u.name, u.n, u.res, putL u.l x⟩) := by unfold Fam.assign; rw [hu]; simp only; rw [if_pos hcond]
        have hcs := cs_assign hf hu hG
        have hname := (getV_len hf hu).2
        rw [hname] at hG hcs ⊢
        have c3 := fun (W : World) (hg : Grw L0 W) => put_any (x := x) (ht.grw hg) (by rw [htl]; exact hnf) hxo
        have hct := putT_toL (t := t) (by rw [htl]; exact hnf) hxo
        rw [htl] at c3 hct
        rw [← inL_eq hnf] at c3
        have hin := inL_in hnf hum.2.2.2.2.2.2.2 hb'.1 hb'.2.1 (show x.at_ + x.len ≤ 65536 by omega)
        have hsum := (VL.sums (inL_NF hnf x.at_ x.len).vl).1
        have hlen1 : (chg f.cs [x] 1).length = f.slots := by rw [show (chg f.cs [x] 1).length = f.cs.length from addAt_length _ _, Fam.cs_length]
        have hsm1 : ∀ c ∈ chg f.cs [x] 1, -1000000000 ≤ c ∧ c ≤ 1000000000 := by
          intro c hc
          obtain ⟨i, hi, rfl⟩ := List.getElem_of_mem hc
          have e : (chg f.cs [x] 1)[i]? = some (chg f.cs [x] 1)[i] := List.getElem?_eq_getElem hi
          unfold chg at e ⊢
          rw [addAt_get] at e
          rw [hlen1] at hi
          rw [Fam.cs_get hi] at e
          have e2 : f.cnt i + 1 * occL [x] i = (addAt f.cs fun i => 1 * occL [x] i)[i] := by simpa using e
          have := cnt_bound hf i
          have := occL_bound [x] i
          rw [← e2]
          simp only [List.length_cons, List.length_nil] at this
          omega
        have c4 := fun (W : World) (v s : Value) (hs : Ints W s (chg f.cs [x] 1)) (hv : Exts W v (inL u.l x.at_ x.len)) => drop_any hv hs (by rw [hlen1]; exact hin) (by rw [hlen1]; exact hslots) (by omega) hsm1 (by rw [hcs]; exact cs_nonneg)
        rw [hcs] at c4
        have c5 := fun (W : World) (s : Value) (p : Option Addr) (hg : Grw W0 W) (hi : Ints W s (f.put ⟨nm, u.n, u.res, putL u.l x⟩).cs) (ht : IsT W p (putT t x)) => with_any (n := u.n) (r := u.res) (h0.grw hg) hf hnm hi ht hct rfl
        generalize f.put ⟨nm, u.n, u.res, putL u.l x⟩ = G at *
        generalize putT t x = T2 at *
        generalize inL u.l x.at_ x.len = OL at *
        generalize chg f.cs [x] 1 = C1 at *
        generalize u.n = un at *
        generalize u.res = ur at *
        replace c2 : Aside (∀ (W : World) (v : Value) (hg : Grw W0 W) (hv : Exts W v [x]), _) := c2
        replace c4 : Aside (∀ (W : World) (v s : Value) (hs : Ints W s C1) (hv : Exts W v OL), _) := c4
        replace c5 : Aside (∀ (W : World) (s : Value) (p : Option Addr) (hg : Grw W0 W) (hi : Ints W s G.cs) (ht : IsT W p T2), _) := c5
        replace hlen1 : Aside (C1.length = f.slots) := hlen1
        clear hs hm h0 hu ht htl hum hb hb' hn6 hnf hslots hG hcs hname hct hin hsum hp hp' hcond hxo hsm1 hx1 hx2 hx3
        subst hL1
        go_enter Tryz.func103, Tryz.ntmps103
        go_wp2_with (first
          | (go_at_call 88; refine c1.mono ?_; clear c1; rintro e w1 ⟨rfl, g1⟩; have g1a := g1.alc (.cells #[.int .i64 un, .int .i64 ur, .pointer p] 170); have v9 := alloc_blk w1 (.cells #[.int .i64 un, .int .i64 ur, .pointer p] 170); have hbx := g1.size; simp only [World.size_alloc] at hbx; have v3 := (Grw.alloc w1 (.cells #[.int .i64 un, .int .i64 ur, .pointer p] 170)).blk (g1.blk b3); obtain ⟨u30, u31⟩ := fam_facts v3; have v5 := (Grw.alloc w1 (.cells #[.int .i64 un, .int .i64 ur, .pointer p] 170)).blk (g1.blk b5); obtain ⟨u50, u51, u52⟩ := ext_plain v5; have e1 := exts_one (w1.alloc (.cells #[.int .i64 un, .int .i64 ur, .pointer p] 170)) x; simp only [World.size_alloc] at e1; have g1b := g1a.alc (.cells #[.int .i64 x.at_, .int .i64 x.len, .int .i64 x.slot] 105))
          | (go_at_call 137; refine (c2.out _ _ (hW.then g1b) e1).mono ?_; clear c2; rintro e w2 ⟨s2, rfl, ⟨hi2, -⟩, g2⟩; obtain ⟨A2, cap2, rfl, -, -, -⟩ := hi2.shape; have g2a := (g1b.then g2).alc (.cells #[.slice A2 C1.length cap2] 73); have k2 := (Grw.alloc (w1.alloc (.cells #[.int .i64 un, .int .i64 ur, .pointer p] 170)) (.cells #[.int .i64 x.at_, .int .i64 x.len, .int .i64 x.slot] 105)).then (g2.alc (.cells #[.slice A2 C1.length cap2] 73)); have v9a := k2.blk v9; have v5a := k2.blk v5; clear u30 u31 u50 u51 u52; obtain ⟨r90, r91, r92, -, -⟩ := vol_facts v9a; obtain ⟨u50, u51, u52⟩ := ext_plain v5a; have v11 := alloc_blk w2 (.cells #[.slice A2 C1.length cap2] 73); have hbx2 := g2.size; simp only [World.size_alloc] at hbx2)
          | (go_at_call 155; refine (c3 _ g2a).mono ?_; clear c3; rintro e w3 ⟨p3, v3o, rfl, t3, ho3, g3⟩; simp only [World.size_alloc] at ho3; have hbx3 := g3.size; simp only [World.size_alloc] at hbx3; have g3a := g3.alc (.cells #[.pointer p3] 168); have v9b := g3a.blk v9a; clear r90 r91 r92; obtain ⟨r90, r91, r92, f91, f92⟩ := vol_facts v9b; have v11a := blk_set (b := w1.heap.size) (o := 2) (v := .pointer p3) (g3a.blk v11) (by omega); obtain ⟨u11, f11⟩ := var_facts v11a)
          | (go_at_call 123; have gs3 := (Grw.alloc w2 (.cells #[.slice A2 C1.length cap2] 73)).then g3a; have hi3 := (hi2.grw gs3).setAt (v' := .pointer p3) r92 (fun c h => by cases h); have ho3s := ((OwnE.exts ho3).grw (Grw.alloc w3 (.cells #[.pointer p3] 168))).setAt (v' := .pointer p3) r92 (fun c h => by cases h); refine (c4.out _ _ _ hi3 ho3s).mono ?_; clear c4; rintro e w4 ⟨s4, v4, l4, rfl, hi4, he4, g4⟩; obtain ⟨A4, cap4, rfl, -, -, -⟩ := hi4.shape; clear u11 f11; have v11b := g4.blk v11a; obtain ⟨u11, f11⟩ := var_facts v11b; have v11c := setCell_blk v11b 0 (.slice A4 G.cs.length cap4); have u11c := (var_facts (v := .slice A4 G.cs.length cap4) (by simpa using v11c)).1; have v3a := blk_set (b := w2.heap.size) (o := 0) (v := .slice A4 G.cs.length cap4) (g4.blk (blk_set (b := w1.heap.size) (o := 2) (v := .pointer p3) (g3a.blk (k2.blk v3)) (by omega))) (by omega); obtain ⟨u30, u31⟩ := fam_facts v3a; have v9c := blk_set (b := w2.heap.size) (o := 0) (v := .slice A4 G.cs.length cap4) (g4.blk (vol_set (q := p3) v9b)) (by omega); clear r90 r91 r92 f91 f92; obtain ⟨r90, r91, r92, -, -⟩ := vol_facts v9c; have gW4 := ((((hW.then g2a).then g3a).setOwn (o := 2) (b := w1.heap.size) (by omega) (.pointer p3)).then g4).setOwn (o := 0) (b := w2.heap.size) (by omega) (.slice A4 G.cs.length cap4); have t4 := IsT.set v11b (by decide) 0 (.slice A4 G.cs.length cap4) ((IsT.set v9b (by decide) 2 (.pointer p3) (t3.grw (Grw.alloc w3 (.cells #[.pointer p3] 168)))).grw g4); have hi4s := hi4.setAt (v' := .slice A4 G.cs.length cap4) u11 (fun c h => by cases h); have he4s := he4.setAt (v' := .slice A4 G.cs.length cap4) u11 (fun c h => by cases h))
          | (go_at_call 95; refine (c5.out _ _ _ gW4 hi4s t4).mono ?_; clear c5; rintro e w5 ⟨s9, mp9, rfl, hr9, g5⟩; obtain ⟨hi9, hm9⟩ := hr9.parts; obtain ⟨A9, cap9, rfl, -, -, -⟩ := hi9.shape; have v6 := g5.blk (blk_set (b := w2.heap.size) (o := 0) (v := .slice A4 G.cs.length cap4) (g4.blk (blk_set (b := w1.heap.size) (o := 2) (v := .pointer p3) (g3a.blk (k2.blk ((Grw.alloc w1 (.cells #[.int .i64 un, .int .i64 ur, .pointer p] 170)).blk (g1.blk b6)))) (by omega))) (by omega)); obtain ⟨f80, f81, r80, r81⟩ := res_facts v6))
        obtain ⟨q0, q1, hr, g9⟩ := ret_fam (w0 := W0) v6 (gW4.then g5) (by omega) hi9 hm9
        have he9 := Exts.ret (mp := mp9) v6 hi9 (he4s.grw g5)
        refine bodyPost_ret (v := .tuple #[famV (.slice A9 G.cs.length cap9) mp9, v4, .int .i64 0]) (by simp [results, Tryz.results103, go_sem, q0, q1]) rfl ⟨_, _, v4, _, rfl, hr, he9, g9⟩
      · have hp' : permB f.slots [x] = false := by simpa using hp
        rw [if_neg (fun h => hp (perm_one.2 ⟨h.2.1, h.2.2.2.1, h.2.2.2.2⟩))]
        simp only [hp', Bool.false_eq_true, if_false] at c2
        generalize u.n = un at *
        generalize u.res = ur at *
        replace c2 : Aside (∀ (W : World) (v : Value) (hg : Grw W0 W) (hv : Exts W v [x]), _) := c2
        clear hs hm h0 hu ht htl hum hb hb' hn6 hslots hp hp' hx1 hx2 hx3
        subst hL1
        go_enter Tryz.func103, Tryz.ntmps103
        go_wp2_with (first
          | (go_at_call 88; refine c1.mono ?_; clear c1; rintro e w1 ⟨rfl, g1⟩; have g1a := g1.alc (.cells #[.int .i64 un, .int .i64 ur, .pointer p] 170); have hbx := g1.size; simp only [World.size_alloc] at hbx; have v3 := (Grw.alloc w1 (.cells #[.int .i64 un, .int .i64 ur, .pointer p] 170)).blk (g1.blk b3); obtain ⟨u30, u31⟩ := fam_facts v3; have v5 := (Grw.alloc w1 (.cells #[.int .i64 un, .int .i64 ur, .pointer p] 170)).blk (g1.blk b5); obtain ⟨u50, u51, u52⟩ := ext_plain v5; have e1 := exts_one (w1.alloc (.cells #[.int .i64 un, .int .i64 ur, .pointer p] 170)) x; simp only [World.size_alloc] at e1; have g1b := g1a.alc (.cells #[.int .i64 x.at_, .int .i64 x.len, .int .i64 x.slot] 105))
          | (go_at_call 137; refine (c2.out _ _ (hW.then g1b) e1).mono ?_; clear c2; rintro e w2 ⟨s2, rfl, ⟨hi2, -⟩, g2⟩; obtain ⟨A2, cap2, rfl, -, -, -⟩ := hi2.shape; have g2a := (g1b.then g2).alc (.cells #[.slice A2 0 cap2] 73); have v6 := g2a.blk b6; obtain ⟨f80, f81, r80, r81⟩ := res_facts v6))
        obtain ⟨q0, q1, hr, g5⟩ := ret_zero (w0 := W0) v6 (hW.then g2a) (by omega)
        refine bodyPost_ret (v := .tuple #[famV (.slice none 0 0) none, .slice none 0 0, .int .i64 2]) (by simp [results, Tryz.results103, go_sem, q0, q1]) rfl ⟨_, _, _, _, rfl, hr, Exts.empty _, g5⟩
    · rw [if_neg hb] at c1
      rw [if_neg (fun h => hb (hasB_iff.2 ⟨h.1, by omega, h.2.2.1⟩))]
      exact bad 2 (by decide) c1
end Go.Proofs.YtbfdnfkflnajlaaGreat

/-! family: Clone. -/
namespace Go.Proofs.YtbfdnfkflnajlaaGreat
open Go.RowKit Go.Shelf
open Ext hiding One

theorem Ints.setLowO {base : Nat} {w : World} {s : Value} {cs : List Int} {b : Nat} (h : IntsO base w s cs) (hb : b < base) (o : Nat) (v : Value) : Ints (w.setCell ⟨b, o, none⟩ v) s cs := by
  obtain ⟨⟨h1, h2⟩, ho⟩ := h
  refine ⟨h1, h2.imp id ?_⟩
  rintro ⟨b', off, cap, rfl, k1, k2, k3⟩
  refine ⟨b', off, cap, rfl, k1, k2, fun j y hy => ?_⟩
  have := ho b' rfl
  rw [← k3 j y hy]
  exact World.cell?_of_block (w := w) (Below.heap_setCell _ _ _ _ (by simp only; omega))
set_option maxRecDepth 100000 in
set_option maxHeartbeats 2000000 in
theorem clone_any {v : Value} {f : Fam} {nm other : List UInt8} {W0 : World} (h : FamR W0 v f) (hf : f.WF) (hnm : nm.length ≤ 1000000) (hot : other.length ≤ 1000000) :
    Calls Tryz.prog 76 #[v, strV nm, strV other] W0 (RetEx (f.clone nm other) W0) := by
  have h0 := h
  obtain ⟨s, mp, rfl, hs, hm⟩ := h
  obtain ⟨A, cap, rfl, -, -, -⟩ := hs.shape
  have hcsl := Fam.cs_length f
  obtain ⟨CL, hCL⟩ : ∃ CL, f.cs.length = CL := ⟨_, rfl⟩
  rw [hCL] at hs h0 hcsl ⊢
  replace hcsl : Aside (CL = f.slots) := hcsl
  have c1 := fun W => name_any (s := other) (W0 := W) hot
  have c2 := fun (W : World) (hg : Grw W0 W) => vacant_any (nm := other) (h0.grw hg) hf hot
  have hL := (Grw.alloc W0 (.cells #[.slice A CL cap, .map mp] 76)).alc (.cells #[.slice none 0 0, .map none] 76)
  unfold Fam.clone
  rcases hm.look hnm with ⟨hg0, hlook⟩ | ⟨u, p, t, hu, ht, htl, hlook⟩
  · rw [hg0]
    clear hs hm h0 hg0
    have b3 := alloc2_blk W0 (.cells #[.slice A CL cap, .map mp] 76) (.cells #[.slice none 0 0, .map none] 76)
    go_enter Tryz.func76, Tryz.ntmps76
    go_wp2
    refine bodyPost_ret (v := .tuple #[famV (.slice none 0 0) none, .int .i64 9]) (by simp [results, Tryz.results76, go_sem]) rfl ⟨_, _, rfl, FamR.zero _, by go_simp⟩
  · rw [hu]
    simp only
    have hum := hf.vols u (getV_some hu).1
    have hW := hL.alc (.cells #[.int .i64 u.n, .int .i64 u.res, .pointer p] 170)
    obtain ⟨L0, hL0⟩ : ∃ L0, ((W0.alloc (.cells #[.slice A CL cap, .map mp] 76)).alloc (.cells #[.slice none 0 0, .map none] 76)).alloc (.cells #[.int .i64 u.n, .int .i64 u.res, .pointer p] 170) = L0 := ⟨_, rfl⟩
    have b3 : L0.heap[W0.heap.size]? = some (.cells #[.slice A CL cap, .map mp] 76 (0, 0)) := by rw [← hL0]; exact (Grw.alloc _ _).blk ((Grw.alloc _ _).blk (alloc_blk _ _))
    have b6 : L0.heap[W0.heap.size + 1]? = some (.cells #[.slice none 0 0, .map none] 76 (0, 0)) := by rw [← hL0]; exact (Grw.alloc _ _).blk (alloc2_blk W0 _ _)
    have b8 : L0.heap[W0.heap.size + 1 + 1]? = some (.cells #[.int .i64 u.n, .int .i64 u.res, .pointer p] 170 (0, 0)) := by
      have := alloc_blk ((W0.alloc (.cells #[.slice A CL cap, .map mp] 76)).alloc (.cells #[.slice none 0 0, .map none] 76)) (.cells #[.int .i64 u.n, .int .i64 u.res, .pointer p] 170)
      rw [← hL0]
      simpa only [World.size_alloc] using this
    rw [hL0] at hW
    have hL1 := hL0.symm
    clear hL0
    by_cases hn : nameB other = true
    · rw [if_pos hn]
      rw [hn] at c1
      replace hn : Aside (nameB other = true) := hn
      by_cases hv : f.vacant other = 0
      · rw [if_pos hv]
        rw [hv] at c2
        have hG : f.clone nm other = .ok (f.put ⟨other, u.n, 0, u.l⟩) := by unfold Fam.clone; rw [hu]; simp only; rw [if_pos hn.out, if_pos hv]
        have hcs := cs_clone hu hG
        have hil := hum.2.2.2.2.2.2.2
        have hlen := hum.2.2.2.2.2.1.len hum.2.2.2.2.2.2.1 (by have := hum.2.1; omega)
        have hn6 := hum.2.2.1
        have hslots := hf.slots
        have hperm : permB f.slots u.l = true := by
          unfold permB
          rw [List.all_eq_true]
          intro x hx
          have := hil x hx
          unfold inN
          rw [decide_eq_true_eq]
          omega
        have c3 := fun (W : World) (hg : Grw W0 W) => extents_any (n := u.n) (r := u.res) (ht.grw hg) (by rw [htl]; omega)
        rw [htl] at c3
        have c4 := fun (W : World) (v : Value) (hg : Grw W0 W) (hv : Exts W v u.l) => add_any hv (hs.grw hg) (fun y hy => by have := hil y hy; omega) (by rw [Fam.cs_length]; omega) (by omega) (cs_small hf)
        rw [Fam.cs_length] at c4
        simp only [hperm, if_true] at c4
        rw [hcs] at c4
        have c5 := fun (W : World) (s : Value) (hg : Grw W0 W) (hi : Ints W s (f.put ⟨other, u.n, 0, u.l⟩).cs) => with_any (n := u.n) (r := 0) (h0.grw hg) hf hot hi (ht.grw hg) htl rfl
        generalize f.put ⟨other, u.n, 0, u.l⟩ = G at *
        generalize u.n = un at *
        generalize u.res = ur at *
        generalize u.l = UL at *
        replace hv : Aside (f.vacant other = 0) := hv
        replace c3 : Aside (∀ (W : World) (hg : Grw W0 W), _) := c3
        replace c4 : Aside (∀ (W : World) (v : Value) (hg : Grw W0 W) (hv : Exts W v UL), _) := c4
        replace c5 : Aside (∀ (W : World) (s : Value) (hg : Grw W0 W) (hi : Ints W s G.cs), _) := c5
        clear hs hm h0 hum hu htl hG hcs hil hlen hn6 hslots hperm ht
        subst hL1
        go_enter Tryz.func76, Tryz.ntmps76
        go_upto_region 9 with (first
          | (go_at_call 93; refine (c1 _).mono ?_; clear c1; rintro e w1 ⟨rfl, g1⟩; have v3 := g1.blk b3; obtain ⟨u30, u31⟩ := fam_facts v3)
          | (go_at_call 94; refine (c2 _ (hW.then g1)).mono ?_; clear c2; rintro e w2 ⟨rfl, g2⟩; clear u30 u31))
        have g12 := g1.then g2
        have v3a := g2.blk v3
        have v8a := g12.blk b8
        have v6a := g12.blk b6
        have hsz := g12.size
        simp only [World.size_alloc] at hsz
        have gW := hW.then g12
        have e30 := GrwX.cells (X := noX) v3a (fun h => h) 0
        have e80 := GrwX.cells (X := noX) v8a (fun h => h) 0
        have e81 := GrwX.cells (X := noX) v8a (fun h => h) 1
        have e82 := GrwX.cells (X := noX) v8a (fun h => h) 2
        simp only [List.getElem?_toArray, List.getElem?_cons_succ, List.getElem?_cons_zero] at e30 e80 e81 e82
        have gsx := GrwX.self noX w2
        go_cut [11, 12] from 36 (fun s11 s12 wx => ∃ (b : Nat) (s' : Value), s11 = ptr b ∧ s12 = .int .i64 0 ∧ w2.heap.size ≤ b ∧ wx.heap[b]? = some (.cells #[s'] 73 (0, 0)) ∧ IntsO w2.heap.size wx s' G.cs ∧ Grw w2 wx)
        case first =>
          have k0 := Grw.drw w2
          refine gv_region (noX) (.q 0 (.q 1 (.q 2 (.two 3 8 (.two 4 8 (.q 5 (.q 6 (.q 7 (.e 8 (.e 9 (.q 10 .nil)))))) (.e 4 (.q 5 (.q 6 (.q 7 (.e 9 (.q 10 .nil))))))) (.e 3 (.e 4 (.q 5 (.q 6 (.q 7 (.e 9 (.q 10 .nil))))))))))) (by kernel_rfl) (by kernel_rfl) (fun c a d v w1 h => by cases d <;> exact h) ?_
          intro A hA
          iterate 3 (apply gv_q hA rfl rfl; intro pp; go_simp; rfl; go_simp)
          refine gv_two hA rfl rfl rfl rfl (fun K hK => ?_) (fun K hK => ?_)
          · go_wp2_with (go_at_call 91; refine (c3.out _ (gW.then k0)).mono ?_; clear c3; rintro e w3 ⟨v3o, rfl, ho3, g3⟩)
            have k3 := k0.then g3
            refine ⟨k3.x, ?_⟩
            refine gv_two hA rfl rfl rfl rfl (fun K hK => ?_) (fun K hK => ?_)
            · go_wp2_with (go_at_call 137; refine (c4.out _ _ (gW.then k3) ho3.exts).mono ?_; clear c4; rintro e w4 ⟨s4, rfl, ⟨hi4, ho4⟩, g4⟩; obtain ⟨A4, cap4, rfl, -, -, -⟩ := hi4.shape)
              have k4 := k3.then g4
              refine ⟨k4.x, ?_⟩
              iterate 3 (apply gv_q hA rfl rfl; intro pp; go_simp; rfl; go_simp)
              have k5 := k4.alc (.cells #[.slice none 0 0] 73)
              have b5 := alloc_blk w4 (.cells #[.slice none 0 0] 73)
              refine gv_e hA rfl rfl (fun K hK => ?_)
              go_wp2
              refine ⟨k5.x, ?_⟩
              obtain ⟨u5, f5⟩ := var_facts b5
              refine gv_e hA rfl rfl (fun K hK => ?_)
              go_wp2
              refine ⟨(k4.alc _).x, ?_⟩
              iterate 1 (apply gv_q hA rfl rfl; intro pp; go_simp; rfl; go_simp)
              refine o_nil ?_
              go_wp2
              go_meet
              case rel => exact ⟨w4.heap.size, _, rfl, rfl, k4.size, alloc_blk _ _, ⟨hi4.grw (Grw.alloc _ _), fun k e => Nat.le_trans k3.size (ho4 k e)⟩, k4.alc _⟩
            · go_wp2
              have k4 := k3.alc (.cells #[.slice none 0 0] 73)
              have b5 := alloc_blk w3 (.cells #[.slice none 0 0] 73)
              refine ⟨k4.x, ?_⟩
              refine gv_e hA rfl rfl (fun K hK => ?_)
              go_wp2_with (go_at_call 137; refine (c4.out _ _ (gW.then k4) (ho3.exts.grw (Grw.alloc _ _))).mono ?_; clear c4; rintro e w4 ⟨s4, rfl, ⟨hi4, ho4⟩, g4⟩; obtain ⟨A4, cap4, rfl, -, -, -⟩ := hi4.shape)
              have k5 := k4.then g4
              refine ⟨k5.x, ?_⟩
              iterate 3 (apply gv_q hA rfl rfl; intro pp; go_simp; rfl; go_simp)
              have b5a := g4.blk b5
              obtain ⟨u5, f5⟩ := var_facts b5a
              refine gv_e hA rfl rfl (fun K hK => ?_)
              go_wp2
              refine ⟨(k5.setOwn k3.size _).x, ?_⟩
              iterate 1 (apply gv_q hA rfl rfl; intro pp; go_simp; rfl; go_simp)
              refine o_nil ?_
              go_wp2
              go_meet
              case rel => exact ⟨w3.heap.size, _, rfl, rfl, k3.size, by simpa using setCell_blk b5a 0 _, ⟨hi4.setAt u5 (fun c h => by cases h), fun k e => Nat.le_trans k4.size (ho4 k e)⟩, k5.setOwn k3.size _⟩
          · go_wp2
            have k3 := k0.alc (.cells #[.slice none 0 0] 73)
            have b5 : (w2.drew.alloc (.cells #[.slice none 0 0] 73)).heap[w2.heap.size]? = some (.cells #[.slice none 0 0] 73 (0, 0)) := alloc_blk w2.drew _
            refine ⟨k3.x, ?_⟩
            refine gv_e hA rfl rfl (fun K hK => ?_)
            go_wp2_with (go_at_call 91; refine (c3.out _ (gW.then k3)).mono ?_; clear c3; rintro e w3 ⟨v3o, rfl, ho3, g3⟩)
            have k4 := k3.then g3
            refine ⟨k4.x, ?_⟩
            refine gv_e hA rfl rfl (fun K hK => ?_)
            go_wp2_with (go_at_call 137; refine (c4.out _ _ (gW.then k4) ho3.exts).mono ?_; clear c4; rintro e w4 ⟨s4, rfl, ⟨hi4, ho4⟩, g4⟩; obtain ⟨A4, cap4, rfl, -, -, -⟩ := hi4.shape)
            have k5 := k4.then g4
            refine ⟨k5.x, ?_⟩
            iterate 3 (apply gv_q hA rfl rfl; intro pp; go_simp; rfl; go_simp)
            have b5a := g4.blk (g3.blk b5)
            obtain ⟨u5, f5⟩ := var_facts b5a
            refine gv_e hA rfl rfl (fun K hK => ?_)
            go_wp2
            refine ⟨(k5.setOwn (Nat.le_refl _) _).x, ?_⟩
            iterate 1 (apply gv_q hA rfl rfl; intro pp; go_simp; rfl; go_simp)
            refine o_nil ?_
            go_wp2
            go_meet
            case rel => exact ⟨w2.heap.size, _, rfl, rfl, Nat.le_refl _, by simpa using setCell_blk b5a 0 _, ⟨hi4.setAt u5 (fun c h => by cases h), fun k e => Nat.le_trans k4.size (ho4 k e)⟩, k5.setOwn (Nat.le_refl _) _⟩
        case rest =>
          obtain ⟨b, s', rfl, rfl, hbb, hb11, ⟨hi11, ho11⟩, hgc⟩ := hcut
          clear c3 c4 e30 e80 e81 e82
          obtain ⟨A4, cap4, rfl, -, -, -⟩ := hi11.shape
          have hsz2 : W0.heap.size + 1 + 1 < w2.heap.size := by omega
          have v8c := hgc.blk v8a
          obtain ⟨r80, r81, r82, f81, -⟩ := vol_facts v8c
          have v8d : (wc.setCell ⟨W0.heap.size + 1 + 1, 1, none⟩ (.int .i64 0)).heap[W0.heap.size + 1 + 1]? = some (.cells #[.int .i64 un, .int .i64 0, .pointer p] 170 (0, 0)) := by simpa using setCell_blk v8c 1 (.int .i64 0)
          obtain ⟨t80, t81, t82, -, -⟩ := vol_facts v8d
          have v3c := blk_set (b := W0.heap.size + 1 + 1) (o := 1) (v := .int .i64 0) (hgc.blk v3a) (by omega)
          obtain ⟨t30, t31⟩ := fam_facts v3c
          have v11c := blk_set (b := W0.heap.size + 1 + 1) (o := 1) (v := .int .i64 0) hb11 (by omega)
          have t11 := (var_facts v11c).1
          have v6c := blk_set (b := W0.heap.size + 1 + 1) (o := 1) (v := .int .i64 0) (hgc.blk v6a) (by omega)
          have gWc := (gW.then hgc).setOwn (b := W0.heap.size + 1 + 1) (o := 1) (by omega) (.int .i64 0)
          have hi11c : Ints (wc.setCell ⟨W0.heap.size + 1 + 1, 1, none⟩ (.int .i64 0)) (.slice A4 G.cs.length cap4) G.cs := Ints.setLowO ⟨hi11, ho11⟩ (by omega) 1 _
          clear v8c v3a v8a v6a
          go_wp2_with (go_at_call 95; refine (c5.out _ _ gWc hi11c).mono ?_; clear c5; rintro e w5 ⟨s9, mp9, rfl, hr9, g5⟩; obtain ⟨hi9, hm9⟩ := hr9.parts; obtain ⟨A9, cap9, rfl, -, -, -⟩ := hi9.shape; have v6 := g5.blk v6c; obtain ⟨f80, f81', r80', r81'⟩ := res_facts v6)
          obtain ⟨q0, q1, hr, g9⟩ := ret_fam (w0 := W0) v6 (gWc.then g5) (by omega) hi9 hm9
          refine bodyPost_ret (v := .tuple #[famV (.slice A9 G.cs.length cap9) mp9, .int .i64 0]) (by simp [results, Tryz.results76, go_sem, q0, q1]) rfl ⟨_, _, rfl, hr, g9⟩
      · rw [if_neg hv]
        generalize f.vacant other = K at *
        have hk' : (K == 0) = false := by simpa using hv
        generalize u.n = un at *
        generalize u.res = ur at *
        clear hs hm h0 hum hu htl ht
        subst hL1
        go_enter Tryz.func76, Tryz.ntmps76
        go_wp2_with (first
          | (go_at_call 93; refine (c1 _).mono ?_; clear c1; rintro e w1 ⟨rfl, g1⟩; have v3 := g1.blk b3; obtain ⟨u30, u31⟩ := fam_facts v3)
          | (go_at_call 94; refine (c2 _ (hW.then g1)).mono ?_; clear c2; rintro e w2 ⟨rfl, g2⟩; clear u30 u31; have v6 := (g1.then g2).blk b6; obtain ⟨f80, f81, r80, r81⟩ := res_facts v6))
        obtain ⟨q0, q1, hr, g9⟩ := ret_zero (w0 := W0) v6 ((hW.then g1).then g2) (by omega)
        refine bodyPost_ret (v := .tuple #[famV (.slice none 0 0) none, .int .i64 K]) (by simp [results, Tryz.results76, go_sem, q0, q1]) rfl ⟨_, _, rfl, hr, g9⟩
    · rw [if_neg hn]
      have hn' : nameB other = false := by simpa using hn
      rw [hn'] at c1
      replace hn' : Aside (nameB other = false) := hn'
      generalize u.n = un at *
      generalize u.res = ur at *
      clear hs hm h0 hum hu htl ht hn c2
      subst hL1
      go_enter Tryz.func76, Tryz.ntmps76
      go_wp2_with (go_at_call 93; refine (c1 _).mono ?_; clear c1; rintro e w1 ⟨rfl, g1⟩; have v6 := g1.blk b6; obtain ⟨f80, f81, r80, r81⟩ := res_facts v6)
      obtain ⟨q0, q1, hr, g9⟩ := ret_zero (w0 := W0) v6 (hW.then g1) (by omega)
      refine bodyPost_ret (v := .tuple #[famV (.slice none 0 0) none, .int .i64 1]) (by simp [results, Tryz.results76, go_sem, q0, q1]) rfl ⟨_, _, rfl, hr, g9⟩
end Go.Proofs.YtbfdnfkflnajlaaGreat

/-! family: Delete. -/
namespace Go.Proofs.YtbfdnfkflnajlaaGreat
open Go.RowKit Go.Shelf
open Ext hiding One

theorem getV_delV (vs : List Vol) (nm k : List UInt8) : getV (delV vs nm) k = if nm = k then none else getV vs k := by
  unfold getV delV
  rw [List.find?_filter]
  split
  · rename_i h
    subst h
    rw [List.find?_eq_none]
    intro v _
    simp
  · rename_i h
    congr 1
    funext v
    by_cases hv : v.name = k
    · simp [hv, Ne.symm h]
    · simp [hv]
theorem DatF.del {w : World} {D : DataW Value} {vs : List Vol} {nm : List UInt8} {u : Vol} (h : DatF w D vs) (hT : Maps.Tidy D) (hs : vs.Pairwise ltV) (hu : getV vs nm = some u) : DatF w (D.del (.string nm)) (delV vs nm) := by
  obtain ⟨h1, h2, h3⟩ := h
  refine ⟨?_, fun k => ?_, fun k v hv => ?_⟩
  · have hsz := Maps.size_del (k := .string nm) hT
    rw [h2 nm, hu, h1] at hsz
    obtain ⟨a, b, rfl, rfl, -⟩ := split_get hu
    rw [delV_mid hs]
    simp only [Option.isSome_some, if_true, List.length_append, List.length_cons] at hsz ⊢
    omega
  · rw [getV_delV]
    by_cases hk : nm = k
    · subst hk
      rw [Maps.has_del_same, if_pos rfl]; rfl
    · rw [Maps.has_del_other (by simpa using (Ne.symm hk)), if_neg hk, h2]
  · rw [getV_delV] at hv
    by_cases hk : nm = k
    · rw [if_pos hk] at hv; cases hv
    · rw [if_neg hk] at hv
      obtain ⟨p', t', k1, k2, k3⟩ := h3 k v hv
      exact ⟨p', t', fun z => by rw [Maps.atKey_del_other (by simpa using (Ne.symm hk))]; exact k1 z, k2, k3⟩
theorem MapF.deleted {w : World} {b k : Nat} {D : DataW Value} {vs : List Vol} {nm : List UInt8} {u : Vol} (ho : w.ownsMap Tryz.prog 9 Rv b k (D.del (.string nm))) (h : DatF w D vs) (hT : Maps.Tidy D) (hs : vs.Pairwise ltV) (hu : getV vs nm = some u) :
    MapF w (some b) (delV vs nm) := by
  have hd := h.del hT hs hu
  refine .inr ⟨b, _, rfl, ?_, hd⟩
  have := own_size ho
  rw [hd.1] at this
  exact this
set_option maxRecDepth 100000 in
set_option maxHeartbeats 2000000 in
theorem delete_fam {v : Value} {f : Fam} {nm : List UInt8} {W0 : World} (h : FamR W0 v f) (hf : f.WF) (hnm : nm.length ≤ 1000000) :
    Calls Tryz.prog 66 #[v, strV nm] W0 (RetExD (f.delete nm) W0) := by
  have h0 := h
  obtain ⟨s, mp, rfl, hs, hm⟩ := h
  obtain ⟨A, cap, rfl, -, -, -⟩ := hs.shape
  have hcsl := Fam.cs_length f
  obtain ⟨CL, hCL⟩ : ∃ CL, f.cs.length = CL := ⟨_, rfl⟩
  rw [hCL] at hs h0 hcsl ⊢
  replace hcsl : Aside (CL = f.slots) := hcsl
  have hL := (Grw.alloc W0 (.cells #[.slice A CL cap, .map mp] 76)).alc (.cells #[.slice none 0 0, .map none] 76)
  have hsort := hf.sorted
  have key := keyS hnm
  rcases hm.look hnm with ⟨hg0, hlook⟩ | ⟨u, p, t, hu, ht, htl, hlook⟩
  · have e1 : f.delete nm = .error 9 := by unfold Fam.delete; rw [hg0]
    rw [e1]
    clear hs hm h0 hg0 e1
    go_enter Tryz.func66, Tryz.ntmps66
    go_wp2
    refine bodyPost_ret (v := .tuple #[famV (.slice none 0 0) none, .slice none 0 0, .int .i64 9]) (by simp [results, Tryz.results66, go_sem]) rfl ⟨_, _, _, _, rfl, FamR.zero _, Exts.empty _, by go_simp⟩
  · have hG : f.delete nm = .ok ⟨f.slots, delV f.vols nm⟩ := by unfold Fam.delete; rw [hu]
    have hcs := cs_delete hf hu hG
    rw [hG]
    obtain ⟨bm, D, rfl, hown, hd⟩ : ∃ b D, mp = some b ∧ W0.ownsMap Tryz.prog 9 Rv b f.vols.length D ∧ DatF W0 D f.vols := by
      rcases hm with ⟨_, h⟩ | ⟨b, D, e, h1, h2⟩
      · rw [h] at hu; cases hu
      · exact ⟨b, D, e, h1, h2⟩
    have hum := hf.vols u (getV_some hu).1
    have hW := hL.alc (.cells #[.int .i64 u.n, .int .i64 u.res, .pointer p] 170)
    obtain ⟨L0, hL0⟩ : ∃ L0, ((W0.alloc (.cells #[.slice A CL cap, .map (some bm)] 76)).alloc (.cells #[.slice none 0 0, .map none] 76)).alloc (.cells #[.int .i64 u.n, .int .i64 u.res, .pointer p] 170) = L0 := ⟨_, rfl⟩
    have b3 : L0.heap[W0.heap.size]? = some (.cells #[.slice A CL cap, .map (some bm)] 76 (0, 0)) := by rw [← hL0]; exact (Grw.alloc _ _).blk ((Grw.alloc _ _).blk (alloc_blk _ _))
    have b6 : L0.heap[W0.heap.size + 1]? = some (.cells #[.slice none 0 0, .map none] 76 (0, 0)) := by rw [← hL0]; exact (Grw.alloc _ _).blk (alloc2_blk W0 _ _)
    have b8 : L0.heap[W0.heap.size + 1 + 1]? = some (.cells #[.int .i64 u.n, .int .i64 u.res, .pointer p] 170 (0, 0)) := by
      have := alloc_blk ((W0.alloc (.cells #[.slice A CL cap, .map (some bm)] 76)).alloc (.cells #[.slice none 0 0, .map none] 76)) (.cells #[.int .i64 u.n, .int .i64 u.res, .pointer p] 170)
      rw [← hL0]
      simpa only [World.size_alloc] using this
    rw [hL0] at hW
    have hL1 := hL0.symm
    clear hL0
    have hil := hum.2.2.2.2.2.2.2
    have hlen := hum.2.2.2.2.2.1.len hum.2.2.2.2.2.2.1 (by have := hum.2.1; omega)
    have hn6 := hum.2.2.1
    have hslots := hf.slots
    have c3 := fun (W : World) (hg : Grw W0 W) => extents_any (n := u.n) (r := u.res) (ht.grw hg) (by rw [htl]; omega)
    rw [htl] at c3
    have c4 := fun (W : World) (v : Value) (hg : Grw W0 W) (hv : Exts W v u.l) => drop_any hv (hs.grw hg) (by rw [Fam.cs_length]; exact hil) (by rw [Fam.cs_length]; omega) (by omega) (cs_small hf) (by rw [hcs]; exact cs_nonneg)
    rw [hcs] at c4
    have c5 := fun (W : World) (hW : Grw W0 W) => (AnyW.maps_Clone_owns Tryz.cloneM 9 Rv bm _ D W (hown.kept (hW.by none) (by simp))).mono (R' := fun e w' => ∃ bs, e = .returned (.map (some bs)) ∧ W.heap.size ≤ bs ∧ w'.ownsMap Tryz.prog 9 Rv bs f.vols.length D ∧ Grw W w') (by rintro e w' ⟨rfl, h1, _, h2⟩; exact ⟨_, rfl, Nat.le_refl _, h1, h2⟩)
    change ∀ W, Grw W0 W → Calls Tryz.prog 124 _ _ _ at c5
    have hvol : (⟨f.slots, delV f.vols nm⟩ : Fam).vols = delV f.vols nm := rfl
    generalize (⟨f.slots, delV f.vols nm⟩ : Fam) = G at *
    replace c3 : Aside (∀ (W : World) (hg : Grw W0 W), _) := c3
    replace c4 : Aside (∀ (W : World) (v : Value) (hg : Grw W0 W) (hv : Exts W v u.l), _) := c4
    replace c5 : Aside (∀ (W : World) (hg : Grw W0 W), _) := c5
    have hfin : ∀ (w : World) (b k : Nat), Grw W0 w → w.ownsMap Tryz.prog 9 Rv b k (D.del (.string nm)) → MapF w (some b) G.vols := fun w b k hg ho => by rw [hvol]; exact MapF.deleted ho (hd.grw hg) (hown.tidy lawS) hsort hu
    replace hfin : Aside (∀ (w : World) (b k : Nat), Grw W0 w → w.ownsMap Tryz.prog 9 Rv b k (D.del (.string nm)) → MapF w (some b) G.vols) := hfin
    generalize u.n = un at *
    generalize u.res = ur at *
    clear hs hm h0 hum htl hG hcs hil hlen hn6 hslots ht hown hd hvol hsort hu
    subst hL1
    go_enter Tryz.func66, Tryz.ntmps66
    go_upto_region 4 with fail
    obtain ⟨W, hWd⟩ : ∃ W, ((W0.alloc (.cells #[.slice A CL cap, .map (some bm)] 76)).alloc (.cells #[.slice none 0 0, .map none] 76)).alloc (.cells #[.int .i64 un, .int .i64 ur, .pointer p] 170) = W := ⟨_, rfl⟩
    have hszW : W.heap.size = W0.heap.size + 1 + 1 + 1 := by rw [← hWd]; simp only [World.size_alloc]
    rw [hWd] at hW b3 b6 b8 ⊢
    replace hszW : Aside (W.heap.size = W0.heap.size + 1 + 1 + 1) := hszW
    clear hWd hL
    have e30 := GrwX.cells (X := noX) b3 (fun h => h) 0
    have e80 := GrwX.cells (X := noX) b8 (fun h => h) 0
    have e81 := GrwX.cells (X := noX) b8 (fun h => h) 1
    have e82 := GrwX.cells (X := noX) b8 (fun h => h) 2
    simp only [List.getElem?_toArray, List.getElem?_cons_succ, List.getElem?_cons_zero] at e30 e80 e81 e82
    have gsx := GrwX.self noX W
    go_cut [9, 10, 11] from 23 (fun s9 s10 s11 wx => ∃ (b : Nat) (s' : Value) (l' : List Ext), s9 = ptr b ∧ s11 = .int .i64 0 ∧ W.heap.size ≤ b ∧ wx.heap[b]? = some (.cells #[s'] 73 (0, 0)) ∧ Ints wx s' G.cs ∧ Exts wx s10 l' ∧ Grw W wx)
    case first =>
      have k0 := Grw.drw W
      refine gv_region (noX) (.q 0 (.q 1 (.q 2 (.two 3 9 (.two 4 9 (.q 5 (.q 6 (.q 7 (.q 8 (.e 9 (.e 10 (.q 11 (.q 12 .nil)))))))) (.e 4 (.q 5 (.q 6 (.q 7 (.q 8 (.e 10 (.q 11 (.q 12 .nil))))))))) (.e 3 (.e 4 (.q 5 (.q 6 (.q 7 (.q 8 (.e 10 (.q 11 (.q 12 .nil))))))))))))) (by kernel_rfl) (by kernel_rfl) (fun c a d v w1 h => by cases d <;> exact h) ?_
      intro A hA
      iterate 3 (apply gv_q hA rfl rfl; intro pp; go_simp; rfl; go_simp)
      refine gv_two hA rfl rfl rfl rfl (fun K hK => ?_) (fun K hK => ?_)
      · go_wp2_with (go_at_call 91; refine (c3.out _ (hW.then k0)).mono ?_; clear c3; rintro e w3 ⟨v3o, rfl, ho3, g3⟩)
        have k3 := k0.then g3
        refine ⟨k3.x, ?_⟩
        refine gv_two hA rfl rfl rfl rfl (fun K hK => ?_) (fun K hK => ?_)
        · go_wp2_with (go_at_call 123; refine (c4.out _ _ (hW.then k3) ho3.exts).mono ?_; clear c4; rintro e w4 ⟨s4, v4, l4, rfl, hi4, he4, g4⟩; obtain ⟨A4, cap4, rfl, -, -, -⟩ := hi4.shape)
          have k4 := k3.then g4
          refine ⟨k4.x, ?_⟩
          iterate 4 (apply gv_q hA rfl rfl; intro pp; go_simp; rfl; go_simp)
          have k5 := k4.alc (.cells #[.slice none 0 0] 73)
          have b5 := alloc_blk w4 (.cells #[.slice none 0 0] 73)
          refine gv_e hA rfl rfl (fun K hK => ?_)
          go_wp2
          refine ⟨k5.x, ?_⟩
          obtain ⟨u5, f5⟩ := var_facts b5
          refine gv_e hA rfl rfl (fun K hK => ?_)
          go_wp2
          refine ⟨(k4.alc _).x, ?_⟩
          iterate 2 (apply gv_q hA rfl rfl; intro pp; go_simp; rfl; go_simp)
          refine o_nil ?_
          go_wp2
          go_meet
          case rel => exact ⟨w4.heap.size, _, l4, rfl, rfl, k4.size, alloc_blk _ _, hi4.grw (Grw.alloc _ _), he4.grw (Grw.alloc _ _), k4.alc _⟩
        · go_wp2
          have k4 := k3.alc (.cells #[.slice none 0 0] 73)
          have b5 := alloc_blk w3 (.cells #[.slice none 0 0] 73)
          refine ⟨k4.x, ?_⟩
          refine gv_e hA rfl rfl (fun K hK => ?_)
          go_wp2_with (go_at_call 123; refine (c4.out _ _ (hW.then k4) (ho3.exts.grw (Grw.alloc _ _))).mono ?_; clear c4; rintro e w4 ⟨s4, v4, l4, rfl, hi4, he4, g4⟩; obtain ⟨A4, cap4, rfl, -, -, -⟩ := hi4.shape)
          have k5 := k4.then g4
          refine ⟨k5.x, ?_⟩
          iterate 4 (apply gv_q hA rfl rfl; intro pp; go_simp; rfl; go_simp)
          have b5a := g4.blk b5
          obtain ⟨u5, f5⟩ := var_facts b5a
          refine gv_e hA rfl rfl (fun K hK => ?_)
          go_wp2
          refine ⟨(k5.setOwn k3.size _).x, ?_⟩
          iterate 2 (apply gv_q hA rfl rfl; intro pp; go_simp; rfl; go_simp)
          refine o_nil ?_
          go_wp2
          go_meet
          case rel => exact ⟨w3.heap.size, _, l4, rfl, rfl, k3.size, by simpa using setCell_blk b5a 0 _, hi4.setAt u5 (fun c h => by cases h), he4.setAt u5 (fun c h => by cases h), k5.setOwn k3.size _⟩
      · go_wp2
        have k3 := k0.alc (.cells #[.slice none 0 0] 73)
        have b5 : (W.drew.alloc (.cells #[.slice none 0 0] 73)).heap[W.heap.size]? = some (.cells #[.slice none 0 0] 73 (0, 0)) := alloc_blk W.drew _
        refine ⟨k3.x, ?_⟩
        refine gv_e hA rfl rfl (fun K hK => ?_)
        go_wp2_with (go_at_call 91; refine (c3.out _ (hW.then k3)).mono ?_; clear c3; rintro e w3 ⟨v3o, rfl, ho3, g3⟩)
        have k4 := k3.then g3
        refine ⟨k4.x, ?_⟩
        refine gv_e hA rfl rfl (fun K hK => ?_)
        go_wp2_with (go_at_call 123; refine (c4.out _ _ (hW.then k4) ho3.exts).mono ?_; clear c4; rintro e w4 ⟨s4, v4, l4, rfl, hi4, he4, g4⟩; obtain ⟨A4, cap4, rfl, -, -, -⟩ := hi4.shape)
        have k5 := k4.then g4
        refine ⟨k5.x, ?_⟩
        iterate 4 (apply gv_q hA rfl rfl; intro pp; go_simp; rfl; go_simp)
        have b5a := g4.blk (g3.blk b5)
        obtain ⟨u5, f5⟩ := var_facts b5a
        refine gv_e hA rfl rfl (fun K hK => ?_)
        go_wp2
        refine ⟨(k5.setOwn (Nat.le_refl _) _).x, ?_⟩
        iterate 2 (apply gv_q hA rfl rfl; intro pp; go_simp; rfl; go_simp)
        refine o_nil ?_
        go_wp2
        go_meet
        case rel => exact ⟨W.heap.size, _, l4, rfl, rfl, Nat.le_refl _, by simpa using setCell_blk b5a 0 _, hi4.setAt u5 (fun c h => by cases h), he4.setAt u5 (fun c h => by cases h), k5.setOwn (Nat.le_refl _) _⟩
    case rest =>
      obtain ⟨b, s', l', rfl, rfl, hbb, hb11, hi11, he11, hgc⟩ := hcut
      clear c3 c4 e30 e80 e81 e82
      obtain ⟨A4, cap4, rfl, -, -, -⟩ := hi11.shape
      have v3c := hgc.blk b3
      obtain ⟨t30, t31⟩ := fam_facts v3c
      go_wp2_with (first
        | (go_at_call 124; refine (c5.out _ (hW.then hgc)).mono ?_; clear c5; rintro e w5 ⟨bs, rfl, hbs, ho5, g5⟩)
        | (at_delete; refine wpList_delete_own _ rfl _ _ 74 9 rfl 170 lawS Tryz.underlying74 Rv bs _ D rfl ho5 (strV nm) (.string nm) rfl key ?_; intro w6 hown6 hturn6; have g6 := grw_upd g5 hturn6.grown hbs; have u9 := (var_facts (g6.blk hb11)).1; have v6 := g6.blk (hgc.blk b6); obtain ⟨f80, f81, r80, r81⟩ := res_facts v6))
      have hm9 := hfin.out w6 bs _ ((hW.then hgc).then g6) hown6
      obtain ⟨q0, q1, hr, g9⟩ := ret_fam (w0 := W0) v6 ((hW.then hgc).then g6) (by omega) (hi11.grw g6) hm9
      have he9 := Exts.ret (mp := some bs) v6 (hi11.grw g6) (he11.grw g6)
      refine bodyPost_ret (v := .tuple #[famV (.slice A4 G.cs.length cap4) (some bs), _, .int .i64 0]) (by simp [results, Tryz.results66, go_sem, q0, q1]) rfl ⟨_, _, _, _, rfl, hr, he9, g9⟩
end Go.Proofs.YtbfdnfkflnajlaaGreat
