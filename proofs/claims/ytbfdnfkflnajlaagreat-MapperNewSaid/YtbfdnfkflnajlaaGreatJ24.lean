/-
  mapper: Create, Clone, Delete, Trim. mapper: free. mapper: hint, slots. mapper: State, Family, Copy.
-/
import Derived.Test.YtbfdnfkflnajlaaGreatJ04
import Derived.Test.YtbfdnfkflnajlaaGreatJ23
import Derived.Deep.Cut
import Derived.Deep.CutRange
set_option linter.unusedVariables false
set_option linter.unusedSimpArgs false
/-! mapper: Create, Clone, Delete, Trim. -/
namespace Go.Proofs.YtbfdnfkflnajlaaGreat
open Go.RowKit
open Ext hiding One

def errE : Except Int Fam → Int
  | .ok _ => 0
  | .error k => k
theorem RetEx.any {x : Except Int Fam} {w w' : World} {e : Ending} (h : RetEx x w e w') : ∃ g, RetFE g (errE x) w e w' := by
  cases x with
  | ok g => exact ⟨g, h⟩
  | error k => exact ⟨fam0, h⟩
theorem RetExD.any {x : Except Int Fam} {w w' : World} {e : Ending} (h : RetExD x w e w') : ∃ g, RetFD g (errE x) w e w' := by
  cases x with
  | ok g => exact ⟨g, h⟩
  | error k => exact ⟨fam0, h⟩
theorem ints_two (W : World) (a b : Int) : Ints (W.alloc (.cells #[.int .i64 a, .int .i64 b] 3)) (.slice (some ⟨W.heap.size, 0, none⟩) 2 2) [a, b] := by
  refine ⟨by simp, .inr ⟨_, _, _, rfl, by simp, by decide, fun j u hu => ?_⟩⟩
  rw [Nat.zero_add, blk_cell (alloc_blk W _)]
  simpa using hu
theorem map_load {w : World} {p : Nat} {s : Value} {mp : Option Nat} {t : TypeId} (hb : w.heap[p]? = some (.cells #[s, .map mp] t (0, 0))) : w.cell? ⟨p, 0, none⟩ = some s ∧ w.cell? ⟨p, 1, none⟩ = some (.map mp) := ⟨blk_cell hb 0, blk_cell hb 1⟩
/-- the error of creating a volume. -/
def Fam.createE (f : Fam) (nm : List UInt8) (n r : Int) : Int := if errE (f.create nm n r) = 0 then enoughI r f.room else errE (f.create nm n r)
theorem create_args {f : Fam} {nm : List UInt8} {n r : Int} (h : errE (f.create nm n r) = 0) : (1 ≤ n ∧ n ≤ 65536) ∧ 0 ≤ r ∧ r ≤ n := by
  unfold Fam.create at h
  split at h
  · rename_i hc; exact ⟨⟨hc.2.1, hc.2.2.1⟩, hc.2.2.2⟩
  · simp [errE] at h
theorem clone_args {f : Fam} {nm other : List UInt8} (h : errE (f.clone nm other) = 0) : ∃ u, getV f.vols nm = some u := by
  unfold Fam.clone at h
  cases hg : getV f.vols nm with
  | none => rw [hg] at h; simp [errE] at h
  | some u => exact ⟨u, rfl⟩
def noteC (nm : List UInt8) (n r : Int) : List UInt8 := encU 3 ++ encB nm ++ encNs [n, r]
def noteT (nm : List UInt8) (a n : Int) : List UInt8 := encU 2 ++ encB nm ++ encNs [a, n]
def noteK (nm other : List UInt8) : List UInt8 := encU 4 ++ encB nm ++ encB other
def noteD (nm : List UInt8) : List UInt8 := encU 5 ++ encB nm
theorem hdr_len {k : Nat} {nm : List UInt8} (hk : k < 128) (hn : nm.length ≤ 1000) : (encU k ++ encB nm).length ≤ 2000 := by
  have h1 : (encU k).length ≤ 9 := encU_len (k := 8) (by simp; omega)
  have h2 : (encU nm.length).length ≤ 9 := encU_len (k := 8) (by simp; omega)
  unfold encB
  simp only [List.length_append]
  omega
set_option maxRecDepth 100000 in
set_option maxHeartbeats 4000000 in
theorem mcreate_any {p : Nat} {f : Fam} {nm : List UInt8} {n r : Int} {W0 : World} (h : MapR W0 p f) (hf : f.WF) (hnm : nm.length ≤ 1000) (hn0 : nm ≠ []) (hn : 0 ≤ n ∧ n ≤ 65536) (hr : 0 ≤ r ∧ r ≤ 65536) :
    Calls Tryz.prog 19 #[ptr p, strV nm, .int .i64 n, .int .i64 r] W0 (RetNt (noteC nm n r) (f.createE nm n r) W0) := by
  obtain ⟨s, mp, hb, hF⟩ := h
  obtain ⟨A, cap, rfl⟩ := hF.sl
  have hF0 := hF
  generalize f.cs.length = CL at hb hF
  obtain ⟨u0, u1⟩ := map_load hb
  have c1 := create_any (nm := nm) (n := n) (r := r) hF hf (by omega)
  have c3 := fun (W : World) => header_any (kind := 3) (nm := nm) (W0 := W) (by omega) hnm hn0
  have c4 := fun (W : World) (v : Value) (hv : Bys W v (encU 3 ++ encB nm)) => numbers_any (hv.grw (Grw.alloc _ _)) (ints_two W n r) (by have := hdr_len (k := 3) (nm := nm) (by omega) hnm; omega) (by simp; omega) (by simp)
  have c5 := fun (W : World) (v : Value) (k : Int) (hv : Bys W v (encU 3 ++ encB nm ++ encNs [n, r])) => note_any (k := k) hv
  unfold noteC Fam.createE
  have hargs := @create_args f nm n r
  obtain ⟨ER, hER⟩ : ∃ x, errE (f.create nm n r) = x := ⟨_, rfl⟩
  rw [hER] at hargs ⊢
  obtain ⟨H, hH⟩ : ∃ x, encU 3 ++ encB nm = x := ⟨_, rfl⟩
  rw [hH] at c3 c4 c5 ⊢
  obtain ⟨H2, hH2⟩ : ∃ x, H ++ encNs [n, r] = x := ⟨_, rfl⟩
  rw [hH2] at c4 c5 ⊢
  replace c4 : Aside (∀ (W : World) (v : Value) (hv : Bys W v H), _) := c4
  replace c5 : Aside (∀ (W : World) (v : Value) (k : Int) (hv : Bys W v H2), _) := c5
  replace hER : Aside (errE (f.create nm n r) = ER) := hER
  clear hH hH2 hn hr hn0
  by_cases hk : ER = 0
  · subst hk
    have hv := hargs rfl
    have c2 := fun (W : World) (hg : Grw W0 W) => can_create_any (hF.grw hg) hf hv.1 hv.2
    rw [if_pos rfl]
    obtain ⟨EN, hEN⟩ : ∃ x, enoughI r f.room = x := ⟨_, rfl⟩
    rw [hEN] at c2 ⊢
    clear hEN hargs hv hF0 hF
    go_enter Tryz.func19, Tryz.ntmps19
    go_wp2_with (first
      | (go_at_call 45; refine c1.mono ?_; clear c1; rintro e w1 hR; obtain ⟨g, s1, mp1, rfl, hF1, g1⟩ := RetEx.any hR; rw [hER.out] at *; obtain ⟨A1, cap1, rfl⟩ := hF1.sl; clear hR; have q0 := fun (B : World) (hB : Grw w1 B) => (map_load (hB.blk (g1.blk hb))).1; have q1 := fun (B : World) (hB : Grw w1 B) => (map_load (hB.blk (g1.blk hb))).2; have gs1 := Grw.self w1)
      | (go_at_call 46; refine (c2 _ (g1.alc _)).mono ?_; clear c2; rintro e w2 ⟨rfl, g2⟩)
      | (go_at_call 48; refine (c3 _).mono ?_; clear c3; rintro e w3 ⟨v3, rfl, hv3, g3⟩)
      | (go_at_call 41; refine (c4.out _ _ hv3).mono ?_; clear c4; rintro e w4 ⟨v4, rfl, hv4, g4⟩)
      | (go_at_call 47; refine (c5.out _ _ _ hv4).mono ?_; clear c5; rintro e w5 ⟨v5, rfl, hv5, g5⟩))
    refine bodyPost_ret (v := .tuple #[v5, .int .i64 EN]) (by simp [results, Tryz.results19, go_sem]) rfl ⟨_, rfl, hv5, (g1.alc _).then (g2.then (g3.then ((Grw.alloc _ _).then (g4.then g5))))⟩
  · rw [if_neg hk]
    have hk2 : (ER == 0) = false := by simp [hk]
    clear hargs hF0 hF
    go_enter Tryz.func19, Tryz.ntmps19
    go_wp2_with (first
      | (go_at_call 45; refine c1.mono ?_; clear c1; rintro e w1 hR; obtain ⟨g, s1, mp1, rfl, hF1, g1⟩ := RetEx.any hR; rw [hER.out] at *; obtain ⟨A1, cap1, rfl⟩ := hF1.sl; clear hR; have q0 := fun (B : World) (hB : Grw w1 B) => (map_load (hB.blk (g1.blk hb))).1; have q1 := fun (B : World) (hB : Grw w1 B) => (map_load (hB.blk (g1.blk hb))).2; have gs1 := Grw.self w1)
      | (go_at_call 48; refine (c3 _).mono ?_; clear c3; rintro e w3 ⟨v3, rfl, hv3, g3⟩)
      | (go_at_call 41; refine (c4.out _ _ hv3).mono ?_; clear c4; rintro e w4 ⟨v4, rfl, hv4, g4⟩)
      | (go_at_call 47; refine (c5.out _ _ _ hv4).mono ?_; clear c5; rintro e w5 ⟨v5, rfl, hv5, g5⟩))
    refine bodyPost_ret (v := .tuple #[v5, .int .i64 ER]) (by simp [results, Tryz.results19, go_sem]) rfl ⟨_, rfl, hv5, (g1.alc _).then (g3.then ((Grw.alloc _ _).then (g4.then g5)))⟩
/-- the error of cloning a volume. -/
def Fam.cloneE (f : Fam) (nm other : List UInt8) : Int :=
  if errE (f.clone nm other) = 0 then (match getV f.vols nm with | some u => enoughI (u.res - f.claim u) f.room | none => 0) else errE (f.clone nm other)
set_option maxRecDepth 100000 in
set_option maxHeartbeats 4000000 in
theorem mclone_any {p : Nat} {f : Fam} {nm other : List UInt8} {W0 : World} (h : MapR W0 p f) (hf : f.WF) (hnm : nm.length ≤ 1000) (hn0 : nm ≠ []) (hot : other.length ≤ 1000) (ho0 : other ≠ []) :
    Calls Tryz.prog 34 #[ptr p, strV nm, strV other] W0 (RetNt (noteK nm other) (f.cloneE nm other) W0) := by
  obtain ⟨s, mp, hb, hF⟩ := h
  obtain ⟨A, cap, rfl⟩ := hF.sl
  generalize f.cs.length = CL at hb hF
  obtain ⟨u0, u1⟩ := map_load hb
  have c1 := clone_any (nm := nm) (other := other) hF hf (by omega) (by omega)
  have c3 := fun (W : World) => header_any (kind := 4) (nm := nm) (W0 := W) (by omega) hnm hn0
  have kc := conv_run other
  have c4 := fun (W : World) (v : Value) (hv : Bys W v (encU 4 ++ encB nm)) => appendBytes_any (m := other) (hv.grw (conv_grw W other)) (conv_bys W other (by omega)) (by have := hdr_len (k := 4) (nm := nm) (by omega) hnm; omega) (by omega) ho0
  have c5 := fun (W : World) (v : Value) (k : Int) (hv : Bys W v (encU 4 ++ encB nm ++ encB other)) => note_any (k := k) hv
  unfold noteK Fam.cloneE
  have hargs := @clone_args f nm other
  obtain ⟨ER, hER⟩ : ∃ x, errE (f.clone nm other) = x := ⟨_, rfl⟩
  rw [hER] at hargs ⊢
  obtain ⟨H, hH⟩ : ∃ x, encU 4 ++ encB nm = x := ⟨_, rfl⟩
  rw [hH] at c3 c4 c5 ⊢
  obtain ⟨H2, hH2⟩ : ∃ x, H ++ encB other = x := ⟨_, rfl⟩
  rw [hH2] at c4 c5 ⊢
  replace c4 : Aside (∀ (W : World) (v : Value) (hv : Bys W v H), _) := c4
  replace c5 : Aside (∀ (W : World) (v : Value) (k : Int) (hv : Bys W v H2), _) := c5
  replace hER : Aside (errE (f.clone nm other) = ER) := hER
  clear hH hH2 hn0 ho0
  by_cases hk : ER = 0
  · subst hk
    obtain ⟨u, hu⟩ := hargs rfl
    have c2 := fun (W : World) (hg : Grw W0 W) => can_clone_any (hF.grw hg) hf (by omega) hu
    rw [if_pos rfl, hu]
    simp only
    obtain ⟨EN, hEN⟩ : ∃ x, enoughI (u.res - f.claim u) f.room = x := ⟨_, rfl⟩
    rw [hEN] at c2 ⊢
    clear hEN hargs hu hF
    go_enter Tryz.func34, Tryz.ntmps34
    go_wp2_with (first
      | (go_at_call 76; refine c1.mono ?_; clear c1; rintro e w1 hR; obtain ⟨g, s1, mp1, rfl, hF1, g1⟩ := RetEx.any hR; rw [hER.out] at *; obtain ⟨A1, cap1, rfl⟩ := hF1.sl; clear hR; have q0 := fun (B : World) (hB : Grw w1 B) => (map_load (hB.blk (g1.blk hb))).1; have q1 := fun (B : World) (hB : Grw w1 B) => (map_load (hB.blk (g1.blk hb))).2; have gs1 := Grw.self w1)
      | (go_at_call 77; refine (c2 _ (g1.alc _)).mono ?_; clear c2; rintro e w2 ⟨rfl, g2⟩)
      | (go_at_call 48; refine (c3 _).mono ?_; clear c3; rintro e w3 ⟨v3, rfl, hv3, g3⟩)
      | (go_at_call 44; refine (c4.out _ _ hv3).mono ?_; clear c4; rintro e w4 ⟨v4, rfl, ho4, g4⟩; have hv4 := ho4.bys)
      | (go_at_call 47; refine (c5.out _ _ _ hv4).mono ?_; clear c5; rintro e w5 ⟨v5, rfl, hv5, g5⟩))
    refine bodyPost_ret (v := .tuple #[v5, .int .i64 EN]) (by simp [results, Tryz.results34, go_sem]) rfl ⟨_, rfl, hv5, (g1.alc _).then (g2.then (g3.then ((conv_grw _ _).then (g4.then g5))))⟩
  · rw [if_neg hk]
    have hk2 : (ER == 0) = false := by simp [hk]
    clear hargs hF
    go_enter Tryz.func34, Tryz.ntmps34
    go_wp2_with (first
      | (go_at_call 76; refine c1.mono ?_; clear c1; rintro e w1 hR; obtain ⟨g, s1, mp1, rfl, hF1, g1⟩ := RetEx.any hR; rw [hER.out] at *; obtain ⟨A1, cap1, rfl⟩ := hF1.sl; clear hR; have q0 := fun (B : World) (hB : Grw w1 B) => (map_load (hB.blk (g1.blk hb))).1; have q1 := fun (B : World) (hB : Grw w1 B) => (map_load (hB.blk (g1.blk hb))).2; have gs1 := Grw.self w1)
      | (go_at_call 48; refine (c3 _).mono ?_; clear c3; rintro e w3 ⟨v3, rfl, hv3, g3⟩)
      | (go_at_call 44; refine (c4.out _ _ hv3).mono ?_; clear c4; rintro e w4 ⟨v4, rfl, ho4, g4⟩; have hv4 := ho4.bys)
      | (go_at_call 47; refine (c5.out _ _ _ hv4).mono ?_; clear c5; rintro e w5 ⟨v5, rfl, hv5, g5⟩))
    refine bodyPost_ret (v := .tuple #[v5, .int .i64 ER]) (by simp [results, Tryz.results34, go_sem]) rfl ⟨_, rfl, hv5, (g1.alc _).then (g3.then ((conv_grw _ _).then (g4.then g5)))⟩
set_option maxRecDepth 100000 in
set_option maxHeartbeats 4000000 in
theorem mdelete_any {p : Nat} {f : Fam} {nm : List UInt8} {W0 : World} (h : MapR W0 p f) (hf : f.WF) (hnm : nm.length ≤ 1000) (hn0 : nm ≠ []) :
    Calls Tryz.prog 23 #[ptr p, strV nm] W0 (RetNt (noteD nm) (errE (f.delete nm)) W0) := by
  obtain ⟨s, mp, hb, hF⟩ := h
  obtain ⟨A, cap, rfl⟩ := hF.sl
  generalize f.cs.length = CL at hb hF
  obtain ⟨u0, u1⟩ := map_load hb
  have c1 := delete_fam (nm := nm) hF hf (by omega)
  have c3 := fun (W : World) => header_any (kind := 5) (nm := nm) (W0 := W) (by omega) hnm hn0
  have c5 := fun (W : World) (v : Value) (k : Int) (hv : Bys W v (encU 5 ++ encB nm)) => note_any (k := k) hv
  unfold noteD
  obtain ⟨ER, hER⟩ : ∃ x, errE (f.delete nm) = x := ⟨_, rfl⟩
  rw [hER]
  obtain ⟨H, hH⟩ : ∃ x, encU 5 ++ encB nm = x := ⟨_, rfl⟩
  rw [hH] at c3 c5 ⊢
  replace c5 : Aside (∀ (W : World) (v : Value) (k : Int) (hv : Bys W v H), _) := c5
  replace hER : Aside (errE (f.delete nm) = ER) := hER
  clear hH hn0 hF
  go_enter Tryz.func23, Tryz.ntmps23
  go_wp2_with (first
    | (go_at_call 66; refine c1.mono ?_; clear c1; rintro e w1 hR; obtain ⟨g, s1, mp1, vl, ll, rfl, hF1, hvl, g1⟩ := RetExD.any hR; rw [hER.out] at *; obtain ⟨A1, cap1, rfl⟩ := hF1.sl; clear hR; have q0 := fun (B : World) (hB : Grw w1 B) => (map_load (hB.blk (g1.blk hb))).1; have q1 := fun (B : World) (hB : Grw w1 B) => (map_load (hB.blk (g1.blk hb))).2; have gs1 := Grw.self w1)
    | (go_at_call 48; refine (c3 _).mono ?_; clear c3; rintro e w3 ⟨v3, rfl, hv3, g3⟩)
    | (go_at_call 47; refine (c5.out _ _ _ hv3).mono ?_; clear c5; rintro e w5 ⟨v5, rfl, hv5, g5⟩))
  refine bodyPost_ret (v := .tuple #[v5, .int .i64 ER]) (by simp [results, Tryz.results23, go_sem]) rfl ⟨_, rfl, hv5, (g1.alc _).then (g3.then g5)⟩
set_option maxRecDepth 100000 in
set_option maxHeartbeats 4000000 in
theorem mtrim_any {p : Nat} {f : Fam} {nm : List UInt8} {a n : Int} {W0 : World} (h : MapR W0 p f) (hf : f.WF) (hnm : nm.length ≤ 1000) (hn0 : nm ≠ []) (ha : 0 ≤ a ∧ a ≤ 65536) (hn : 0 ≤ n ∧ n ≤ 65536) :
    Calls Tryz.prog 22 #[ptr p, strV nm, .int .i64 a, .int .i64 n] W0 (RetNt (noteT nm a n) (errE (f.unmap nm a n)) W0) := by
  obtain ⟨s, mp, hb, hF⟩ := h
  obtain ⟨A, cap, rfl⟩ := hF.sl
  generalize f.cs.length = CL at hb hF
  obtain ⟨u0, u1⟩ := map_load hb
  have c1 := unmap_any (nm := nm) (a := a) (n := n) hF hf (by omega) (by unfold smallI; omega)
  have c3 := fun (W : World) => header_any (kind := 2) (nm := nm) (W0 := W) (by omega) hnm hn0
  have c4 := fun (W : World) (v : Value) (hv : Bys W v (encU 2 ++ encB nm)) => numbers_any (hv.grw (Grw.alloc _ _)) (ints_two W a n) (by have := hdr_len (k := 2) (nm := nm) (by omega) hnm; omega) (by simp; omega) (by simp)
  have c5 := fun (W : World) (v : Value) (k : Int) (hv : Bys W v (encU 2 ++ encB nm ++ encNs [a, n])) => note_any (k := k) hv
  unfold noteT
  obtain ⟨ER, hER⟩ : ∃ x, errE (f.unmap nm a n) = x := ⟨_, rfl⟩
  rw [hER]
  obtain ⟨H, hH⟩ : ∃ x, encU 2 ++ encB nm = x := ⟨_, rfl⟩
  rw [hH] at c3 c4 c5 ⊢
  obtain ⟨H2, hH2⟩ : ∃ x, H ++ encNs [a, n] = x := ⟨_, rfl⟩
  rw [hH2] at c4 c5 ⊢
  replace c4 : Aside (∀ (W : World) (v : Value) (hv : Bys W v H), _) := c4
  replace c5 : Aside (∀ (W : World) (v : Value) (k : Int) (hv : Bys W v H2), _) := c5
  replace hER : Aside (errE (f.unmap nm a n) = ER) := hER
  clear hH hH2 hn0 hF ha hn
  go_enter Tryz.func22, Tryz.ntmps22
  go_wp2_with (first
    | (go_at_call 65; refine c1.mono ?_; clear c1; rintro e w1 hR; obtain ⟨g, s1, mp1, vl, ll, rfl, hF1, hvl, g1⟩ := RetExD.any hR; rw [hER.out] at *; obtain ⟨A1, cap1, rfl⟩ := hF1.sl; clear hR; have q0 := fun (B : World) (hB : Grw w1 B) => (map_load (hB.blk (g1.blk hb))).1; have q1 := fun (B : World) (hB : Grw w1 B) => (map_load (hB.blk (g1.blk hb))).2; have gs1 := Grw.self w1)
    | (go_at_call 48; refine (c3 _).mono ?_; clear c3; rintro e w3 ⟨v3, rfl, hv3, g3⟩)
    | (go_at_call 41; refine (c4.out _ _ hv3).mono ?_; clear c4; rintro e w4 ⟨v4, rfl, hv4, g4⟩)
    | (go_at_call 47; refine (c5.out _ _ _ hv4).mono ?_; clear c5; rintro e w5 ⟨v5, rfl, hv5, g5⟩))
  refine bodyPost_ret (v := .tuple #[v5, .int .i64 ER]) (by simp [results, Tryz.results22, go_sem]) rfl ⟨_, rfl, hv5, (g1.alc _).then (g3.then ((Grw.alloc _ _).then (g4.then g5)))⟩
end Go.Proofs.YtbfdnfkflnajlaaGreat

/-! mapper: free. -/
namespace Go.Proofs.YtbfdnfkflnajlaaGreat
open Go.RowKit Go.Shelf
open Ext hiding One

/-- all slots, as runs. -/
def allL (n : Nat) : List Ext := if n = 0 then [] else [⟨0, n, 0⟩]
theorem allL_in (n : Nat) : inL1 n (allL n) := by
  unfold allL
  split
  · exact inL1.nil _
  · exact inL1.one (by simp only; omega)
theorem allL_occ (n i : Nat) : occL (allL n) i = if i < n then 1 else 0 := by
  unfold allL
  split
  · rename_i h; subst h; simp [occL]
  · simp only [occL, occ1]; split <;> split <;> omega
theorem nil_of_occ {l : List Ext} {n : Nat} (h : inL1 n l) (h0 : ∀ i, occL l i = 0) : l = [] := by
  cases l with
  | nil => rfl
  | cons x r =>
    exfalso
    obtain ⟨h1, h2, h3⟩ := h x List.mem_cons_self
    have e := h0 x.slot.toNat
    have := (occL_bound r x.slot.toNat).1
    simp only [occL, occ1] at e
    rw [if_pos (by omega)] at e
    omega
theorem zero_le1 (f : Fam) (i : Nat) : f.zero i ≤ 1 := by unfold Fam.zero; split <;> omega
theorem set_map_blk {w : World} {b : Nat} {c u v0 v1 : Value} {t : TypeId} (hb : w.heap[b]? = some (.cells #[c, u] t (0, 0))) : ((w.setCell ⟨b, 0, none⟩ v0).setCell ⟨b, 1, none⟩ v1).heap[b]? = some (.cells #[v0, v1] t (0, 0)) := by
  have := setCell_blk (setCell_blk hb 0 v0) 1 v1
  simpa using this
set_option maxRecDepth 100000 in
set_option maxHeartbeats 4000000 in
theorem mfree_any {p : Nat} {f : Fam} {W0 : World} (h : MapR W0 p f) (hf : f.WF) :
    Calls Tryz.prog 58 #[ptr p] W0 (RetMk f.slots f.zero W0) := by
  obtain ⟨s, mp, hb, hF⟩ := h
  obtain ⟨A, cap, rfl⟩ := hF.sl
  have hF0 := hF
  have hsl := hf.slots
  generalize f.cs.length = CL at hb hF
  obtain ⟨u0, u1⟩ := map_load hb
  have hpW : p < W0.heap.size := (Array.getElem?_eq_some_iff.1 hb).1
  have hW := Grw.alloc W0 (.cells #[.int .i64 0, .slice none 0 0] 129)
  have b2 := alloc_blk W0 (.cells #[.int .i64 0, .slice none 0 0] 129)
  have c1 := slots_fam (hF.grw hW)
  have c2 := fun (W : World) => anew_any (n := f.slots) (W0 := W) hsl
  have c3 := fun (W : World) (s : Value) (hs : Exts W s (allL f.slots)) => aruns_any (n := f.slots) hs (by unfold allL; split <;> simp)
  have c4 := fun (W : World) (s v : Value) (hs : Exts W s (allL f.slots)) (hv : Exts W v (allL f.slots)) => (amark_any hs hv (fun x hx => by have := allL_in f.slots x hx; omega) (fun i => by rw [allL_occ]; split <;> omega) (allL_in f.slots) (fun i => Int.le_refl _) hsl).mono (R' := fun e w' => ∃ s, e = .returned (.tuple #[amapV f.slots s, .int .i64 0]) ∧ Exts w' s [] ∧ Grw W w') (by
    rintro e w' ⟨s, rest, rfl, h1, h2, h3, h4⟩
    obtain rfl := nil_of_occ h3 (fun i => by rw [h4]; exact Int.sub_self _)
    exact ⟨s, rfl, h1, h2⟩)
  have c5 := fun (W : World) (hg : Grw W0 W) => free_fam (hF.grw hg) hf
  have c6 := fun (W : World) (s v : Value) (out : List Ext) (hs : Exts W s []) (hv : Exts W v out) (hi : inL1 f.slots out) (ho : ∀ i, occL out i = f.zero i) => (agive_any (N := f.slots) hs hv (inL1.nil _) (fun x hx => by cases hx) hi (fun i => by rw [ho]; have := zero_le1 f i; simp only [occL]; omega) hsl).mono (R' := RetMk f.slots f.zero W) (by
    rintro e w' ⟨s, rest, rfl, h1, h2, h3, h4⟩
    exact ⟨s, rest, rfl, h1, h2, h3, fun i => by rw [h4]; simp only [occL]; rw [ho]; exact Int.zero_add _⟩)
  have hRe : (if f.slots = 0 then [] else [(⟨0, (f.slots : Int), 0⟩ : Ext)]) = allL f.slots := rfl
  unfold RetM at c2
  simp only [hRe] at c2
  obtain ⟨R0, hR0⟩ : ∃ x, allL f.slots = x := ⟨_, rfl⟩
  rw [hR0] at c2 c3 c4
  replace c3 : Aside (∀ (W : World) (s : Value) (hs : Exts W s R0), _) := c3
  replace c4 : Aside (∀ (W : World) (s v : Value) (hs : Exts W s R0) (hv : Exts W v R0), _) := c4
  replace c6 : Aside (∀ (W : World) (s v : Value) (out : List Ext) (hs : Exts W s []) (hv : Exts W v out) (hi : inL1 f.slots out) (ho : ∀ i, occL out i = f.zero i), _) := c6
  clear hR0 hF0 hRe hF hf
  go_enter Tryz.func58, Tryz.ntmps58
  go_upto_region 4 with (first
    | (go_at_call 35; refine c1.mono ?_; clear c1; rintro e w1 ⟨rfl, g1⟩)
    | (go_at_call 110; refine (c2 _).mono ?_; clear c2; rintro e w2 ⟨s2, rfl, hs2, g2⟩; obtain ⟨A2, cap2, rfl, -, -, -⟩ := hs2.shape))
  have b4 := alloc_blk w2 (.cells #[.int .i64 f.slots, .slice A2 R0.length cap2] 129)
  have gA := (hW.then (g1.then g2)).alc (.cells #[.int .i64 f.slots, .slice A2 R0.length cap2] 129)
  have hsW := hs2.grw (Grw.alloc w2 (.cells #[.int .i64 f.slots, .slice A2 R0.length cap2] 129))
  replace b2 := (Grw.alloc w2 (.cells #[.int .i64 f.slots, .slice A2 R0.length cap2] 129)).blk ((g1.then g2).blk b2)
  have hsz := (hW.then (g1.then g2)).size
  have hsz0 := (g1.then g2).size
  simp only [World.size_alloc] at hsz0
  obtain ⟨Bz, hBz⟩ : ∃ x, w2.heap.size = x := ⟨_, rfl⟩
  rw [hBz] at b4 hsz hsz0 ⊢
  generalize w2.alloc (.cells #[.int .i64 f.slots, .slice A2 R0.length cap2] 129) = W at b4 gA hsW b2 ⊢
  clear g1 g2 hs2 hBz
  go_cut [5] from 26 (fun s5 wx => s5 = .int .i64 0 ∧ ∃ s', wx.heap[Bz]? = some (.cells #[.int .i64 f.slots, s'] 129 (0, 0)) ∧ Exts wx s' [] ∧ wx.heap[W0.heap.size]? = some (.cells #[.int .i64 0, .slice none 0 0] 129 (0, 0)) ∧ Grw W0 wx)
  case first =>
    have k0 := Grw.drw W
    obtain ⟨p0, p1, -, -⟩ := map_facts b4
    refine gv_region (OwnR Bz 1) (.two 0 1 (.e 1 (.e 2 (.e 3 (.q 4 (.q 5 (.q 6 (.e 7 (.q 8 .nil)))))))) (.two 0 2 (.e 2 (.e 3 (.q 4 (.q 5 (.q 6 (.e 7 (.q 8 .nil))))))) (.e 0 (.e 3 (.q 4 (.q 5 (.q 6 (.e 7 (.q 8 .nil))))))))) (by kernel_rfl) (by kernel_rfl) (fun c a d v w1 h => by cases d <;> exact h) ?_
    intro A hA
    refine gv_two hA rfl rfl rfl rfl (fun K hK => ?_) (fun K hK => ?_)
    · go_wp2
      refine ⟨k0.x, ?_⟩
      refine gv_e hA rfl rfl (fun K hK => ?_)
      go_wp2
      refine ⟨k0.x, ?_⟩
      refine gv_e hA rfl rfl (fun K hK => ?_)
      go_wp2_with (go_at_call 112; refine (c3.out _ _ (hsW.grw k0)).mono ?_; clear c3; rintro e w3 ⟨v3, rfl, ho3, g3⟩; obtain ⟨A3, cap3, rfl, -, -, -⟩ := ho3.exts.shape; obtain ⟨p2, p3, -, -⟩ := map_facts (g3.blk b4))
      have k3 := k0.then g3
      refine ⟨k3.x, ?_⟩
      refine gv_e hA rfl rfl (fun K hK => ?_)
      go_wp2_with (go_at_call 111; refine (c4.out _ _ _ (hsW.grw k3) ho3.exts).mono ?_; clear c4; rintro e w4 ⟨s4, rfl, hs4, g4⟩; obtain ⟨A4, cap4, rfl, -, -, -⟩ := hs4.shape)
      have k4 := k3.then g4
      refine ⟨k4.x, ?_⟩
      iterate 3 (apply gv_q hA rfl rfl; intro pp; go_simp; rfl; go_simp)
      have b5 := k4.blk b4
      obtain ⟨f0, f1, f2, f3⟩ := map_facts b5
      refine gv_e hA rfl rfl (fun K hK => ?_)
      go_wp2
      refine ⟨(k4.x.set (X := OwnR Bz 1) (p := ⟨Bz, 0, none⟩) OwnR.at0 _).set (p := ⟨Bz, 1, none⟩) OwnR.at0 _, ?_⟩
      iterate 1 (apply gv_q hA rfl rfl; intro pp; go_simp; rfl; go_simp)
      refine o_nil ?_
      go_wp2
      go_meet
      case rel =>
        refine ⟨rfl, _, set_map_blk b5, Exts.setMap b5 (fun n => by simp) hs4, ?_, ?_⟩
        · rw [Below.heap_setCell _ _ _ _ (by simp only; omega), Below.heap_setCell _ _ _ _ (by simp only; omega)]
          exact k4.blk b2
        · exact ((gA.then k4).setOwn (by omega) _).setOwn (by omega) _
    · go_wp2
      refine ⟨k0.x, ?_⟩
      refine gv_two hA rfl rfl rfl rfl (fun K hK => ?_) (fun K hK => ?_)
      · go_wp2
        refine ⟨k0.x, ?_⟩
        refine gv_e hA rfl rfl (fun K hK => ?_)
        go_wp2_with (go_at_call 112; refine (c3.out _ _ (hsW.grw k0)).mono ?_; clear c3; rintro e w3 ⟨v3, rfl, ho3, g3⟩; obtain ⟨A3, cap3, rfl, -, -, -⟩ := ho3.exts.shape; obtain ⟨p2, p3, -, -⟩ := map_facts (g3.blk b4))
        have k3 := k0.then g3
        refine ⟨k3.x, ?_⟩
        refine gv_e hA rfl rfl (fun K hK => ?_)
        go_wp2_with (go_at_call 111; refine (c4.out _ _ _ (hsW.grw k3) ho3.exts).mono ?_; clear c4; rintro e w4 ⟨s4, rfl, hs4, g4⟩; obtain ⟨A4, cap4, rfl, -, -, -⟩ := hs4.shape)
        have k4 := k3.then g4
        refine ⟨k4.x, ?_⟩
        iterate 3 (apply gv_q hA rfl rfl; intro pp; go_simp; rfl; go_simp)
        have b5 := k4.blk b4
        obtain ⟨f0, f1, f2, f3⟩ := map_facts b5
        refine gv_e hA rfl rfl (fun K hK => ?_)
        go_wp2
        refine ⟨(k4.x.set (X := OwnR Bz 1) (p := ⟨Bz, 0, none⟩) OwnR.at0 _).set (p := ⟨Bz, 1, none⟩) OwnR.at0 _, ?_⟩
        iterate 1 (apply gv_q hA rfl rfl; intro pp; go_simp; rfl; go_simp)
        refine o_nil ?_
        go_wp2
        go_meet
        case rel =>
          refine ⟨rfl, _, set_map_blk b5, Exts.setMap b5 (fun n => by simp) hs4, ?_, ?_⟩
          · rw [Below.heap_setCell _ _ _ _ (by simp only; omega), Below.heap_setCell _ _ _ _ (by simp only; omega)]
            exact k4.blk b2
          · exact ((gA.then k4).setOwn (by omega) _).setOwn (by omega) _
      · go_wp2_with (go_at_call 112; refine (c3.out _ _ (hsW.grw k0)).mono ?_; clear c3; rintro e w3 ⟨v3, rfl, ho3, g3⟩; obtain ⟨A3, cap3, rfl, -, -, -⟩ := ho3.exts.shape; obtain ⟨p2, p3, -, -⟩ := map_facts (g3.blk b4))
        have k3 := k0.then g3
        refine ⟨k3.x, ?_⟩
        refine gv_e hA rfl rfl (fun K hK => ?_)
        go_wp2
        refine ⟨k3.x, ?_⟩
        refine gv_e hA rfl rfl (fun K hK => ?_)
        go_wp2_with (go_at_call 111; refine (c4.out _ _ _ (hsW.grw k3) ho3.exts).mono ?_; clear c4; rintro e w4 ⟨s4, rfl, hs4, g4⟩; obtain ⟨A4, cap4, rfl, -, -, -⟩ := hs4.shape)
        have k4 := k3.then g4
        refine ⟨k4.x, ?_⟩
        iterate 3 (apply gv_q hA rfl rfl; intro pp; go_simp; rfl; go_simp)
        have b5 := k4.blk b4
        obtain ⟨f0, f1, f2, f3⟩ := map_facts b5
        refine gv_e hA rfl rfl (fun K hK => ?_)
        go_wp2
        refine ⟨(k4.x.set (X := OwnR Bz 1) (p := ⟨Bz, 0, none⟩) OwnR.at0 _).set (p := ⟨Bz, 1, none⟩) OwnR.at0 _, ?_⟩
        iterate 1 (apply gv_q hA rfl rfl; intro pp; go_simp; rfl; go_simp)
        refine o_nil ?_
        go_wp2
        go_meet
        case rel =>
          refine ⟨rfl, _, set_map_blk b5, Exts.setMap b5 (fun n => by simp) hs4, ?_, ?_⟩
          · rw [Below.heap_setCell _ _ _ _ (by simp only; omega), Below.heap_setCell _ _ _ _ (by simp only; omega)]
            exact k4.blk b2
          · exact ((gA.then k4).setOwn (by omega) _).setOwn (by omega) _
  case rest =>
    obtain ⟨rfl, s5, b5, hs5, b6, g6⟩ := hcut
    clear c3 c4 gA hsW b2 b4
    obtain ⟨A5, cap5, rfl, -, -, -⟩ := hs5.shape
    obtain ⟨p0, p1, -, -⟩ := map_facts b5
    go_upto_region 7 with (fail)
    have e0 := GrwX.cells (X := OwnR W0.heap.size 1) b5 (OwnR.not (.inr (by omega))) 0
    have e1 := GrwX.cells (X := OwnR W0.heap.size 1) b5 (OwnR.not (.inr (by omega))) 1
    have e2 := GrwX.cells (X := OwnR W0.heap.size 1) (g6.blk hb) (OwnR.not (.inl (by omega))) 0
    have e3 := GrwX.cells (X := OwnR W0.heap.size 1) (g6.blk hb) (OwnR.not (.inl (by omega))) 1
    simp only [List.getElem?_toArray, List.getElem?_cons_succ, List.getElem?_cons_zero] at e0 e1 e2 e3
    have gsx := GrwX.self (OwnR W0.heap.size 1) wc
    have k0 := Grw.drw wc
    refine gx_region (OwnR W0.heap.size 1) [(0, true), (1, true), (2, true), (3, true), (4, true), (5, false), (6, false), (7, true), (8, true), (9, false), (10, true)] (by kernel_rfl) (by kernel_rfl) (fun c a d v w1 h => by cases d <;> exact h) ?_
    intro A hA
    iterate 5 (apply gx_q hA rfl rfl; intro pp; go_simp; rfl; go_simp)
    refine gx_e hA rfl rfl (fun K hK => ?_)
    go_wp2_with (go_at_call 73; refine (c5 _ (g6.then k0)).mono ?_; clear c5; rintro e w7 ⟨v7, out, rfl, ho7, g7, hin7, hat7, hoc7⟩)
    have k7 := k0.then g7
    refine ⟨k7.x, ?_⟩
    refine gx_e hA rfl rfl (fun K hK => ?_)
    go_wp2_with (go_at_call 113; refine (c6.out _ _ _ out (hs5.grw k7) ho7.exts hin7 hoc7).mono ?_; clear c6; rintro e w8 ⟨s8, rest8, rfl, hs8, g8, hin8, hoc8⟩; obtain ⟨A8, cap8, rfl, -, -, -⟩ := hs8.shape)
    have k8 := k7.then g8
    refine ⟨k8.x, ?_⟩
    iterate 2 (apply gx_q hA rfl rfl; intro pp; go_simp; rfl; go_simp)
    have b8 := k8.blk b6
    obtain ⟨f0, f1, f2, f3⟩ := map_facts b8
    refine gx_e hA rfl rfl (fun K hK => ?_)
    go_wp2
    refine ⟨(k8.x.set (X := OwnR W0.heap.size 1) (p := ⟨W0.heap.size, 0, none⟩) OwnR.at0 _).set (p := ⟨W0.heap.size, 1, none⟩) OwnR.at0 _, ?_⟩
    iterate 1 (apply gx_q hA rfl rfl; intro pp; go_simp; rfl; go_simp)
    refine pi_nil ?_
    go_wp2
    obtain ⟨q5, g5⟩ := set_two (w0 := W0) (.int .i64 f.slots) (.slice A8 rest8.length cap8) b8 (g6.then k8) (by omega) rfl
    have q0 := q5 0 _ rfl
    have q1 := q5 1 _ rfl
    refine bodyPost_ret (v := .tuple #[amapV f.slots (.slice A8 rest8.length cap8), .int .i64 0]) (by simp [results, Tryz.results58, go_sem, q0, q1]) rfl ⟨_, rest8, rfl, Exts.setMap b8 (fun n => by simp) hs8, g5, hin8, hoc8⟩
end Go.Proofs.YtbfdnfkflnajlaaGreat

/-! mapper: hint, slots. -/
namespace Go.Proofs.YtbfdnfkflnajlaaGreat
open Go.RowKit Go.Shelf
open Ext hiding One

/-- the slot behind that of the block before a range. -/
def Fam.hint (f : Fam) (nm : List UInt8) (a : Int) : Int := match (f.lookup nm (a - 1)).1 with | some s => s + 1 | none => 0
theorem lookup_ok {f : Fam} {nm : List UInt8} {a s : Int} (h : (f.lookup nm a).1 = some s) : (f.lookup nm a).2 = 0 := by
  unfold Fam.lookup at h ⊢
  cases hg : getV f.vols nm with
  | none => rw [hg] at h; simp at h
  | some v =>
    rw [hg] at h
    simp only at h ⊢
    split at h
    · rename_i hc; rw [if_pos hc]
    · simp at h
set_option maxRecDepth 100000 in
set_option maxHeartbeats 2000000 in
theorem mhint_any {p : Nat} {f : Fam} {nm : List UInt8} {a : Int} {W0 : World} (h : MapR W0 p f) (hf : f.WF) (hnm : nm.length ≤ 1000) (ha : 0 ≤ a ∧ a ≤ 100000) (hs : ∀ s, (f.lookup nm (a - 1)).1 = some s → smallI s) :
    Calls Tryz.prog 60 #[ptr p, strV nm, .int .i64 a] W0 fun e w' => e = .returned (.int .i64 (f.hint nm a)) ∧ Grw W0 w' := by
  obtain ⟨s, mp, hb, hF⟩ := h
  obtain ⟨A, cap, rfl⟩ := hF.sl
  generalize f.cs.length = CL at hb hF
  obtain ⟨u0, u1⟩ := map_load hb
  have c1 := lookup_any (nm := nm) (a := a - 1) hF hf (by omega) (by unfold smallI; omega)
  have hw : IntKind.i64.wrap (a - 1) = a - 1 := wrapI (by omega) (by omega)
  have hok := @lookup_ok f nm (a - 1)
  unfold Fam.hint
  obtain ⟨⟨O, k⟩, hL⟩ : ∃ x, f.lookup nm (a - 1) = x := ⟨_, rfl⟩
  rw [hL] at c1 hs hok ⊢
  simp only at hs hok ⊢
  unfold RetLk at c1
  simp only at c1
  clear hL hf hF hb ha
  cases O with
  | none =>
    clear hs hok
    simp only [Option.getD_none, Option.isSome_none] at c1 ⊢
    go_enter Tryz.func60, Tryz.ntmps60
    go_wp2_with (go_at_call 62; refine c1.mono ?_; clear c1; rintro e w1 ⟨rfl, g1⟩)
    go_ret
    exact ⟨rfl, g1⟩
  | some s =>
    obtain rfl : k = 0 := hok rfl
    have hs1 := hs s rfl
    unfold smallI at hs1
    have hw2 : IntKind.i64.wrap (s + 1) = s + 1 := wrapI (by omega) (by omega)
    clear hs hok hs1
    simp only [Option.getD_some, Option.isSome_some] at c1 ⊢
    go_enter Tryz.func60, Tryz.ntmps60
    go_wp2_with (go_at_call 62; refine c1.mono ?_; clear c1; rintro e w1 ⟨rfl, g1⟩)
    go_ret
    exact ⟨rfl, g1⟩
/-- a list of numbers in a row of the call's own. -/
def OwnI (w : World) (base : Nat) (v : Value) (l : List Int) : Prop := w.ownsRow base 3 1 v l.length (l.map (Value.int .i64))
theorem OwnI.nil (w : World) (base : Nat) : OwnI w base (.slice none 0 0) [] := ⟨by simp, .inl ⟨rfl, rfl⟩⟩
theorem OwnI.ints {w : World} {base : Nat} {v : Value} {l : List Int} (h : OwnI w base v l) : Ints w v l := Rows.own h
theorem OwnI.kept {w w' : World} {base : Nat} {v : Value} {l : List Int} (hg : Grw w w') (h : OwnI w base v l) : OwnI w' base v l :=
  World.ownsRow.kept h (hg.by none) (by cases v.ownBlock <;> simp)
theorem own_baseI {w : World} {base : Nat} {v : Value} {l : List Int} (h : OwnI w base v l) : ∀ k, v.ownBlock = some k → base ≤ k ∧ k < w.heap.size := World.ownsRow.lt h
theorem grw_ownI {W w1 w2 : World} {base : Nat} {v : Value} {l : List Int} (hg : Grw W w1) (h : OwnI w1 base v l) (hb : W.heap.size ≤ base) (k : w1.grownBy w2 v.ownBlock) : Grw W w2 :=
  show Below _ _ _ from Below.grown hg k hg.size (fun j e => by have := own_baseI h j e; omega)
theorem infoI : (Tryz.prog.info? 3).map (fun i => (i.zero, i.size, i.bytes)) = some (some (.int .i64 0), 1, 8) := by kernel_rfl
theorem newsI (W : World) (c : Int) : ∀ j u, ([Value.int .i64 c])[j]? = some u → (W.alloc (.cells #[.int .i64 c] 3)).cell? ((⟨W.heap.size, 0, none⟩ : Addr).add j) = some u := by
  have := World.news_of_block (w := W.alloc (.cells #[.int .i64 c] 3)) (cs := #[.int .i64 c]) (t := 3) (fr := (0, 0)) (heap_alloc_new _ _)
  simpa using this
theorem rngL_succ (a : Int) (j : Nat) : rngL a (j + 1) = rngL a j ++ [a + j] := by simp [rngL, List.range_succ]
theorem slotsL_take {l : List Ext} {k : Nat} {x : Ext} (hx : l[k]? = some x) : slotsL (l.take (k + 1)) = slotsL (l.take k) ++ rngL x.slot x.len.toNat := by
  have hk : k < l.length := (List.getElem?_eq_some_iff.1 hx).1
  rw [List.take_succ_eq_append_getElem hk, show l[k] = x from (List.getElem?_eq_some_iff.1 hx).2]
  simp [slotsL]
/-- numbers in a row of the call's own come back. -/
def RetI (l : List Int) (w : World) (e : Ending) (w' : World) : Prop := ∃ v, e = .returned v ∧ OwnI w' w.heap.size v l ∧ Grw w w'
set_option maxRecDepth 100000 in
set_option maxHeartbeats 2000000 in
theorem mslots_any {v : Value} {l : List Ext} {W0 : World} (h : Exts W0 v l) (hl : inL1 65536 l) (hsum : sumL l ≤ 100000) :
    Calls Tryz.prog 61 #[v] W0 (RetI (slotsL l) W0) := by
  obtain ⟨i0, hi, hz0, hz1, hz2⟩ := info_parts infoI
  obtain ⟨A, cap, rfl, hc, hm, hx⟩ := h.shape
  unfold maxLen at hm
  have hll : (l.length : Int) ≤ 100000 := by have := len_le_sum hl; omega
  have hlen : ∀ k, ((slotsL (l.take k)).length : Int) ≤ 100000 := fun k => by
    rw [slotsL_len (N := 65536) fun y hy => hl y (List.mem_of_mem_take hy)]
    have e : sumL l = sumL (l.take k) + sumL (l.drop k) := by rw [← sumL_append, List.take_append_drop]
    have := sumL_in (n := 65536) (l := l.drop k) (fun y hy => hl y (List.mem_of_mem_drop hy))
    omega
  replace hlen : Aside (∀ k, ((slotsL (l.take k)).length : Int) ≤ 100000) := hlen
  replace hx : Aside (∀ i x, l[i]? = some x → ∃ b off, A = some ⟨b, off, none⟩ ∧ W0.cell? ⟨b, off + i * 3, none⟩ = some (.int .i64 x.at_) ∧ W0.cell? ⟨b, off + i * 3 + 1, none⟩ = some (.int .i64 x.len) ∧ W0.cell? ⟨b, off + i * 3 + 2, none⟩ = some (.int .i64 x.slot)) := hx
  replace hl : Aside (inL1 65536 l) := hl
  clear h hsum
  obtain ⟨Bs, hBs⟩ : ∃ Bs, W0.heap.size = Bs := ⟨_, rfl⟩
  go_enter Tryz.func61, Tryz.ntmps61
  go_wp2
  go_loopg [3, 9] l.length (fun g s3 i wr => ∃ k : Nat, k ≤ l.length ∧ g = l.length - k ∧ i = .int .i64 k ∧ OwnI wr Bs s3 (slotsL (l.take k)) ∧ Grw W0 wr)
  case atStart => exact ⟨0, Nat.zero_le _, rfl, rfl, by simpa [slotsL] using OwnI.nil _ _, Grw.self _⟩
  case round =>
    obtain ⟨k, hk, rfl, rfl, hown, hg⟩ := hrel
    by_cases hlt : k < l.length
    · obtain ⟨x, hlx⟩ : ∃ x, l[k]? = some x := ⟨l[k], List.getElem?_eq_getElem hlt⟩
      obtain ⟨b2, off, rfl, p0, p1, p2⟩ := hx.out k x hlx
      replace p0 := Grw.cell p0 _ hg
      replace p1 := Grw.cell p1 _ hg
      replace p2 := Grw.cell p2 _ hg
      obtain ⟨i1, i2, i3⟩ := hl.out x (List.mem_of_getElem? hlx)
      have hnext : Aside (slotsL (l.take (k + 1)) = slotsL (l.take k) ++ rngL x.slot x.len.toNat) := (slotsL_take hlx : slotsL (l.take (k + 1)) = slotsL (l.take k) ++ rngL x.slot x.len.toNat)
      have hl1 := hlen.out (k + 1)
      rw [hnext.out] at hl1
      obtain ⟨S, hS⟩ : ∃ S, slotsL (l.take k) = S := ⟨_, rfl⟩
      rw [hS] at hnext hl1 hown
      have hSl : (S.length : Int) + x.len ≤ 100000 := by
        rw [List.length_append] at hl1
        simp only [rngL, List.length_map, List.length_range] at hl1
        omega
      clear hl1 hS hlx hx
      have hnb : Value.ownBlock _ ≠ some wr.heap.size := fun e => by have := own_baseI hown _ e; omega
      go_wp2
      have hbox := alloc_blk wr (.cells #[.int .i64 x.at_, .int .i64 x.len, .int .i64 x.slot] 105)
      have hW2 := Grw.alloc wr (.cells #[.int .i64 x.at_, .int .i64 x.len, .int .i64 x.slot] 105)
      have hown2 := hown.kept hW2
      have hg2 := hg.then hW2
      generalize wr.alloc (.cells #[.int .i64 x.at_, .int .i64 x.len, .int .i64 x.slot] 105) = wa at hW2 hbox hown2 hg2 ⊢
      clear p0 p1 p2 hown hW2
      obtain ⟨bx, hbx⟩ : ∃ bx, wr.heap.size = bx := ⟨_, rfl⟩
      rw [hbx] at hbox hnb ⊢
      go_loopg [3, 15] x.len.toNat (fun g s3 s15 wx => ∃ j : Nat, s15 = .int .i64 (j : Int) ∧ (j : Int) ≤ x.len ∧ g = x.len.toNat - j ∧ OwnI wx Bs s3 (S ++ rngL x.slot j) ∧ Grw W0 wx ∧ wx.heap[bx]? = some (.cells #[.int .i64 x.at_, .int .i64 x.len, .int .i64 x.slot] 105 (0, 0)) ∧ s3.ownBlock ≠ some bx)
      case atStart => exact ⟨0, rfl, by omega, rfl, by simpa [rngL] using hown2, hg2, hbox, hnb⟩
      case round =>
        clear hown2 hbox hnb
        obtain ⟨j, rfl, hj, rfl, hown, hgx, hbox, hnb⟩ := hrel
        obtain ⟨-, d1, d2⟩ := ext_cells hbox
        by_cases hjl : (j : Int) < x.len
        · have hw : IntKind.i64.wrap (x.slot + j) = x.slot + j := wrapI (by omega) (by omega)
          have hln : Aside ((S ++ rngL x.slot j).length + 1 ≤ 1000000) := by
            have h2 : (S ++ rngL x.slot j).length + 1 ≤ 1000000 := by simp only [List.length_append, rngL, List.length_map, List.length_range]; omega
            exact h2
          have hbs : Bs ≤ wr.heap.size := by have := hgx.size; omega
          obtain ⟨L, hL⟩ : ∃ L, S ++ rngL x.slot j = L := ⟨_, rfl⟩
          rw [hL] at hown hln
          replace hL : Aside (S ++ rngL x.slot j = L) := hL
          go_wp2_with (at_builtin; refine wpList_append_lies _ rfl _ _ 61 rfl Bs 3 i0 _ 1 8 Tryz.underlying61 hi hz0 hz1 hz2 rfl (by decide) _ L.length (L.map (Value.int .i64)) rfl (World.ownsRow.alloc hown _) ⟨wr.heap.size, 0, none⟩ 1 1 [.int .i64 (x.slot + j)] rfl rfl (newsI wr (x.slot + j)) (by intro u hu; rw [List.mem_singleton.1 hu]; rfl) (by decide) (by have := hln.out; unfold maxLen; omega) (by have := hln.out; omega) (by simp; omega) (wr.heap.size + 1) (by simp) ?_; intro g9 cap8 w9 hown9 hgrow hat hgl)
          go_roundg (x.len.toNat - (j + 1))
          case measure => omega
          case rel =>
            refine ⟨j + 1, by simp, by omega, rfl, ?_, ?_, ?_, ?_⟩
            · rw [rngL_succ, ← List.append_assoc, hL.out]
              unfold OwnI
              rw [List.map_append, List.length_append]
              exact hown9
            · exact grw_ownI (hgx.alc _) (hown.kept (Grw.alloc _ _)) (by omega) hgrow
            · have hlt9 := (Array.getElem?_eq_some_iff.1 hbox).1
              rw [hgrow.block bx (by simp; omega) (fun e => hnb e.symm), Below.heap_alloc _ _ _ hlt9]
              exact hbox
            · rcases hat with h | h
              · intro e
                have e2 : g9 = bx := by injection e
                exact hnb (h.trans (congrArg some e2))
              · intro e
                have e2 : g9 = bx := by injection e
                have hlt9 := (Array.getElem?_eq_some_iff.1 hbox).1
                omega
        · have hjT : (j : Int) = x.len := by omega
          have hjN : x.len.toNat = j := by omega
          rw [hjN] at hnext
          replace hjN := True.intro
          go_wp2
          go_roundg (l.length - (k + 1))
          case measure => omega
          case rel => exact ⟨k + 1, by omega, rfl, by simp, by rw [hnext.out]; exact hown, hgx⟩
    · obtain rfl : k = l.length := by omega
      rw [List.take_length] at hown
      clear hx
      go_wp2
      go_ret
      exact ⟨_, rfl, by rw [hBs]; exact hown, hg⟩
end Go.Proofs.YtbfdnfkflnajlaaGreat

/-! mapper: State, Family, Copy. -/
namespace Go.Proofs.YtbfdnfkflnajlaaGreat
open Go.RowKit Go.Shelf
open Ext hiding One

theorem partE_all {x : Ext} {n : Int} (h0 : 0 ≤ x.at_) (h1 : 1 ≤ x.len) (h2 : x.at_ + x.len ≤ n) : partE x 0 n = some x := by
  unfold partE
  rw [show max x.at_ 0 = x.at_ by omega, show min (x.at_ + x.len) n = x.at_ + x.len by omega, if_pos (by omega)]
  simp
  cases x
  simp
  omega
theorem inL_all {l : List Ext} {n : Int} (h : NF l) (hb : below n l) : inL l 0 n = l := by
  rw [inL_eq h, Int.zero_add]
  unfold partsL
  have : ∀ m : List Ext, (∀ x ∈ m, partE x 0 n = some x) → m.filterMap (fun x => partE x 0 n) = m := by
    intro m hm
    induction m with
    | nil => rfl
    | cons x m ih =>
      rw [List.filterMap_cons, hm x List.mem_cons_self]
      simp only
      rw [ih fun y hy => hm y (List.mem_cons_of_mem _ hy)]
  exact this l fun x hx => by
    have ho := h.1 x hx
    unfold Ext.One at ho
    exact partE_all ho.1 ho.2.2.1 (hb x hx)
theorem ints_one (W : World) (a : Int) : Ints (W.alloc (.cells #[.int .i64 a] 3)) (.slice (some ⟨W.heap.size, 0, none⟩) 1 1) [a] := by
  refine ⟨by simp, .inr ⟨_, _, _, rfl, by simp, by decide, fun j u hu => ?_⟩⟩
  rw [Nat.zero_add, blk_cell (alloc_blk W _)]
  simpa using hu
theorem ints_three (W : World) (a b c : Int) : Ints (W.alloc (.cells #[.int .i64 a, .int .i64 b, .int .i64 c] 3)) (.slice (some ⟨W.heap.size, 0, none⟩) 3 3) [a, b, c] := by
  refine ⟨by simp, .inr ⟨_, _, _, rfl, by simp, by decide, fun j u hu => ?_⟩⟩
  rw [Nat.zero_add, blk_cell (alloc_blk W _)]
  simpa using hu
theorem encXs_take {l : List Ext} {k : Nat} {x : Ext} (hx : l[k]? = some x) : encXs (l.take (k + 1)) = encXs (l.take k) ++ encNs [x.at_, x.len, x.slot] := by
  have hk : k < l.length := (List.getElem?_eq_some_iff.1 hx).1
  rw [List.take_succ_eq_append_getElem hk, show l[k] = x from (List.getElem?_eq_some_iff.1 hx).2, encXs_app]
  simp [encXs, encX, encNs]
theorem encVs_take {l : List Vol} {k : Nat} {u : Vol} (hu : l[k]? = some u) : encVs (l.take (k + 1)) = encVs (l.take k) ++ encB u.name ++ encNs [u.n, u.res, u.l.length] ++ encXs u.l := by
  have hk : k < l.length := (List.getElem?_eq_some_iff.1 hu).1
  rw [List.take_succ_eq_append_getElem hk, show l[k] = u from (List.getElem?_eq_some_iff.1 hu).2, encVs_app]
  simp [encVs, encV, encNs]
theorem encVs_len {N : Nat} : ∀ {vs : List Vol}, (∀ v ∈ vs, v.WF N) → (encVs vs).length ≤ 700000 * vs.length
  | [], _ => by simp [encVs]
  | v :: r, h => by
    have h1 := h v List.mem_cons_self
    have h2 := encV_len h1
    have h3 := encVs_len (vs := r) fun u hu => h u (List.mem_cons_of_mem _ hu)
    obtain ⟨_, k1, k2, _, _, k3, k4, _⟩ := h1
    have := (k3.len k4 (by omega)).2
    simp only [encVs, List.length_append, List.length_cons]
    omega
set_option maxRecDepth 100000 in
set_option maxHeartbeats 1000000 in
theorem mfamily_any {p : Nat} {f : Fam} {W0 : World} (h : MapR W0 p f) :
    Calls Tryz.prog 32 #[ptr p] W0 fun e w' => ∃ v, e = .returned v ∧ FamR w' v f ∧ Grw W0 w' := by
  obtain ⟨s, mp, hb, hF⟩ := h
  obtain ⟨A, cap, rfl⟩ := hF.sl
  generalize f.cs.length = CL at hb hF
  obtain ⟨u0, u1⟩ := map_load hb
  have hW := Grw.alloc W0 (.cells #[.slice A CL cap, .map mp] 76)
  have hF2 := hF.grw hW
  have u2 := Grw.cell u0 _ (Grw.alloc W0 (.cells #[.slice none 0 0, .map none] 76))
  have u3 := Grw.cell u1 _ (Grw.alloc W0 (.cells #[.slice none 0 0, .map none] 76))
  clear hF hb u0 u1
  go_enter Tryz.func32, Tryz.ntmps32
  go_wp2
  refine bodyPost_ret (v := famV (.slice A CL cap) mp) (by simp [results, Tryz.results32, go_sem]) rfl ⟨_, rfl, hF2, hW⟩
set_option maxRecDepth 100000 in
set_option maxHeartbeats 1000000 in
theorem mcopy_any {p : Nat} {f : Fam} {W0 : World} (h : MapR W0 p f) :
    Calls Tryz.prog 25 #[ptr p] W0 fun e w' => ∃ q, e = .returned (ptr q) ∧ W0.heap.size ≤ q ∧ MapR w' q f ∧ Grw W0 w' := by
  obtain ⟨s, mp, hb, hF⟩ := h
  obtain ⟨A, cap, rfl⟩ := hF.sl
  generalize f.cs.length = CL at hb hF
  obtain ⟨u0, u1⟩ := map_load hb
  have hW := Grw.alloc W0 (.cells #[.slice A CL cap, .map mp] 90)
  have b2 := alloc_blk W0 (.cells #[.slice A CL cap, .map mp] 90)
  have hF2 := hF.grw hW
  clear hF hb
  go_enter Tryz.func25, Tryz.ntmps25
  go_wp2
  go_ret
  exact ⟨_, rfl, Nat.le_refl _, ⟨_, _, b2, hF2⟩, hW⟩
end Go.Proofs.YtbfdnfkflnajlaaGreat
