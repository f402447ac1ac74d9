/-
  family: New, Create. family: Lookup, Range, Info. family: Info. family: Unmap.
-/
import Derived.Test.YtbfdnfkflnajlaaGreatJ16
set_option linter.unusedVariables false
set_option linter.unusedSimpArgs false
/-! family: New, Create. -/
namespace Go.Proofs.YtbfdnfkflnajlaaGreat
open Go.RowKit Go.Shelf
open Ext hiding One

theorem FamR.parts {w : World} {s : Value} {mp : Option Nat} {f : Fam} (h : FamR w (famV s mp) f) : Ints w s f.cs ∧ MapF w mp f.vols := by
  obtain ⟨s', mp', e, h1, h2⟩ := h
  injection e with e
  have e1 : s = s' := by have := congrArg (fun a : Array Value => a[0]?) e; simpa using this
  have e2 : mp = mp' := by have := congrArg (fun a : Array Value => a[1]?) e; simpa using this
  subst e1; subst e2
  exact ⟨h1, h2⟩
/-- a family and an error come back. -/
def RetFE (f : Fam) (k : Int) (w : World) (e : Ending) (w' : World) : Prop := ∃ s mp, e = .returned (.tuple #[famV s mp, .int .i64 k]) ∧ FamR w' (famV s mp) f ∧ Grw w w'
/-- the family of no slot. -/
def fam0 : Fam := ⟨0, []⟩
theorem fam0_cs : fam0.cs = [] := rfl
theorem FamR.zero (w : World) : FamR w (famV (.slice none 0 0) none) fam0 := ⟨_, _, rfl, Ints.nil w, .inl ⟨rfl, rfl⟩⟩
theorem new_cs (n : Nat) : (⟨n, []⟩ : Fam).cs = List.replicate n 0 := by
  apply List.ext_getElem?
  intro i
  by_cases h : i < n
  · rw [Fam.cs_get h, List.getElem?_replicate, if_pos h]; rfl
  · rw [List.getElem?_eq_none (by rw [Fam.cs_length]; exact Nat.le_of_not_lt h), List.getElem?_eq_none (by simpa using h)]
set_option maxRecDepth 100000 in
set_option maxHeartbeats 1000000 in
theorem fnew_any {n : Int} {W0 : World} : Calls Tryz.prog 36 #[.int .i64 n] W0 (if 0 ≤ n ∧ n ≤ 65536 then RetFE ⟨n.toNat, []⟩ 0 W0 else RetFE fam0 1 W0) := by
  have b2 := alloc_blk W0 (.cells #[.slice none 0 0, .map none] 76)
  have hW := Grw.alloc W0 (.cells #[.slice none 0 0, .map none] 76)
  have c1 : ∀ W, Calls Tryz.prog 79 #[.int .i64 n] W (if 0 ≤ n ∧ n ≤ 65536 then RetC (⟨n.toNat, []⟩ : Fam).cs 0 W else RetC fam0.cs 1 W) := by
    intro W
    split
    · rename_i h
      have := cnew_any (n := n.toNat) (W0 := W) (by omega)
      rw [show ((n.toNat : Nat) : Int) = n by omega] at this
      rw [new_cs]
      exact this
    · exact cnew_bad (by omega)
  have key : ∀ (f : Fam) (k : Int), f.vols = [] → (∀ W, Calls Tryz.prog 79 #[.int .i64 n] W (RetC f.cs k W)) → Calls Tryz.prog 36 #[.int .i64 n] W0 (RetFE f k W0) := by
    intro f k hv c1
    go_enter Tryz.func36, Tryz.ntmps36
    go_wp2_with (go_at_call 79; refine (c1 _).mono ?_; clear c1; rintro e w1 ⟨s', rfl, ⟨hi, -⟩, g1⟩; have v2 := g1.blk b2; obtain ⟨A, cap, rfl, -, -, -⟩ := hi.shape; have g1a := g1.alc (.cells #[.slice A f.cs.length cap] 73); have v2a := (Grw.alloc w1 (.cells #[.slice A f.cs.length cap] 73)).blk v2; have f0 := blk_free v2a 0; have f1 := blk_free v2a 1; have r0 := blk_cell v2a 0; have r1 := blk_cell v2a 1; simp only [List.getElem?_toArray, List.getElem?_cons_succ, List.getElem?_cons_zero] at r0 r1)
    obtain ⟨q5, g5⟩ := set_two (w0 := W0) (.slice A f.cs.length cap) (.map none) v2a (hW.then g1a) (Nat.le_refl _) rfl
    have q0 := q5 0 _ rfl
    have q1 := q5 1 _ rfl
    have hr := FamR.ret (f := f) v2a (fun c h => by cases h) (fun c h => by cases h) (hi.grw (Grw.alloc _ _)) (.inl ⟨rfl, hv⟩)
    refine bodyPost_ret (v := .tuple #[famV (.slice A f.cs.length cap) none, .int .i64 k]) (by simp [results, Tryz.results36, go_sem, q0, q1]) rfl ⟨_, _, rfl, hr, g5⟩
  split
  · rename_i h
    refine key _ 0 rfl (fun W => ?_)
    have := c1 W
    rwa [if_pos h] at this
  · rename_i h
    refine key _ 1 rfl (fun W => ?_)
    have := c1 W
    rwa [if_neg h] at this
theorem ret_fam {w0 w : World} {b : Nat} {s : Value} {mp : Option Nat} {f : Fam} (hb : w.heap[b]? = some (.cells #[.slice none 0 0, .map none] 76 (0, 0))) (hg : Grw w0 w) (hn : w0.heap.size ≤ b) (hs : Ints w s f.cs) (hm : MapF w mp f.vols) :
    ((w.setCell ⟨b, 0, none⟩ s).setCell ⟨b, 1, none⟩ (.map mp)).cell? ⟨b, 0, none⟩ = some s ∧ ((w.setCell ⟨b, 0, none⟩ s).setCell ⟨b, 1, none⟩ (.map mp)).cell? ⟨b, 1, none⟩ = some (.map mp) ∧
    FamR ((w.setCell ⟨b, 0, none⟩ s).setCell ⟨b, 1, none⟩ (.map mp)) (famV s mp) f ∧ Grw w0 ((w.setCell ⟨b, 0, none⟩ s).setCell ⟨b, 1, none⟩ (.map mp)) := by
  obtain ⟨q5, g5⟩ := set_two (w0 := w0) s (.map mp) hb hg hn rfl
  exact ⟨q5 0 _ rfl, q5 1 _ rfl, FamR.ret hb (fun c h => by cases h) (fun c h => by cases h) hs hm, g5⟩
theorem ret_zero {w0 w : World} {b : Nat} (hb : w.heap[b]? = some (.cells #[.slice none 0 0, .map none] 76 (0, 0))) (hg : Grw w0 w) (hn : w0.heap.size ≤ b) :
    ((w.setCell ⟨b, 0, none⟩ (.slice none 0 0)).setCell ⟨b, 1, none⟩ (.map none)).cell? ⟨b, 0, none⟩ = some (.slice none 0 0) ∧ ((w.setCell ⟨b, 0, none⟩ (.slice none 0 0)).setCell ⟨b, 1, none⟩ (.map none)).cell? ⟨b, 1, none⟩ = some (.map none) ∧
    FamR ((w.setCell ⟨b, 0, none⟩ (.slice none 0 0)).setCell ⟨b, 1, none⟩ (.map none)) (famV (.slice none 0 0) none) fam0 ∧ Grw w0 ((w.setCell ⟨b, 0, none⟩ (.slice none 0 0)).setCell ⟨b, 1, none⟩ (.map none)) :=
  ret_fam hb hg hn (Ints.nil w) (.inl ⟨rfl, rfl⟩)
/-- the facts on a result variable that is to be written. -/
theorem res_facts {w : World} {b : Nat} (hb : w.heap[b]? = some (.cells #[.slice none 0 0, .map none] 76 (0, 0))) :
    w.frozen? ⟨b, 0, none⟩ = false ∧ w.frozen? ⟨b, 1, none⟩ = false ∧ w.cell? ⟨b, 0, none⟩ = some (.slice none 0 0) ∧ w.cell? ⟨b, 1, none⟩ = some (.map none) :=
  ⟨blk_free hb 0, blk_free hb 1, blk_cell hb 0, blk_cell hb 1⟩
theorem fam_facts {w : World} {b : Nat} {s : Value} {mp : Option Nat} (hb : w.heap[b]? = some (.cells #[s, .map mp] 76 (0, 0))) :
    w.cell? ⟨b, 0, none⟩ = some s ∧ w.cell? ⟨b, 1, none⟩ = some (.map mp) := ⟨blk_cell hb 0, blk_cell hb 1⟩
/-- how a change of a family comes back: the family, or the family of no slot and the error. -/
def RetEx (x : Except Int Fam) (w : World) (e : Ending) (w' : World) : Prop :=
  match x with
  | .ok g => RetFE g 0 w e w'
  | .error k => RetFE fam0 k w e w'
set_option maxRecDepth 100000 in
set_option maxHeartbeats 2000000 in
theorem create_any {v : Value} {f : Fam} {nm : List UInt8} {n r : Int} {W0 : World} (h : FamR W0 v f) (hf : f.WF) (hnm : nm.length ≤ 1000000) :
    Calls Tryz.prog 45 #[v, strV nm, .int .i64 n, .int .i64 r] W0 (RetEx (f.create nm n r) W0) := by
  have h0 := h
  obtain ⟨s, mp, rfl, hs, hm⟩ := h
  obtain ⟨A, cap, rfl, -, -, -⟩ := hs.shape
  have c1 := fun W => name_any (s := nm) (W0 := W) hnm
  have c2 := fun (W : World) (hg : Grw W0 W) => vacant_any (nm := nm) (h0.grw hg) hf hnm
  obtain ⟨CL, hCL⟩ : ∃ CL, f.cs.length = CL := ⟨_, rfl⟩
  rw [hCL] at hs h0 c2 ⊢
  have hW := (Grw.alloc W0 (.cells #[.slice A CL cap, .map mp] 76)).alc (.cells #[.slice none 0 0, .map none] 76)
  have b4 : ((W0.alloc (.cells #[.slice A CL cap, .map mp] 76)).alloc (.cells #[.slice none 0 0, .map none] 76)).heap[W0.heap.size]? = some (.cells #[.slice A CL cap, .map mp] 76 (0, 0)) := (Grw.alloc _ _).blk (alloc_blk _ _)
  have b8 := alloc2_blk W0 (.cells #[.slice A CL cap, .map mp] 76) (.cells #[.slice none 0 0, .map none] 76)
  unfold Fam.create
  by_cases hc : nameB nm = true ∧ 1 ≤ n ∧ n ≤ 65536 ∧ 0 ≤ r ∧ r ≤ n
  · rw [if_pos hc]
    obtain ⟨hc1, hc2, hc3, hc4, hc5⟩ := hc
    rw [hc1] at c1
    by_cases hv : f.vacant nm = 0
    · rw [if_pos hv]
      rw [hv] at c2
      have hcs : (f.put ⟨nm, n, r, []⟩).cs = f.cs := cs_create (f := f) (nm := nm) (n := n) (r := r) (by unfold Fam.create; rw [if_pos ⟨hc1, hc2, hc3, hc4, hc5⟩, if_pos hv])
      have c3 := fun (W : World) (hg : Grw W0 W) => with_any (s := .slice A CL cap) (g := f.put ⟨nm, n, r, []⟩) (n := n) (r := r) (p := none) (t := .nil) (l := []) (h0.grw hg) hf hnm (by rw [hcs]; exact hs.grw hg) rfl rfl rfl
      generalize f.put ⟨nm, n, r, []⟩ = G at *
      replace hc1 : Aside (nameB nm = true) := hc1
      replace hv : Aside (f.vacant nm = 0) := hv
      clear hcs hs hm h0
      have k2 : ¬ n < 1 := by omega
      have k3 : ¬ n > 65536 := by omega
      have k4 : ¬ r < 0 := by omega
      have k5 : ¬ r > n := by omega
      go_enter Tryz.func45, Tryz.ntmps45
      go_wp2_with (first
        | (go_at_call 93; refine (c1 _).mono ?_; clear c1; rintro e w1 ⟨rfl, g1⟩; have v4 := g1.blk b4; obtain ⟨u40, u41⟩ := fam_facts v4)
        | (go_at_call 94; refine (c2 _ (hW.then g1)).mono ?_; clear c2; rintro e w2 ⟨rfl, g2⟩; clear u40 u41; obtain ⟨u40, u41⟩ := fam_facts (g2.blk v4))
        | (go_at_call 95; refine (c3 _ ((hW.then g1).then g2)).mono ?_; clear c3; rintro e w3 ⟨s9, mp9, rfl, hr9, g3⟩; obtain ⟨hi9, hm9⟩ := hr9.parts; obtain ⟨A9, cap9, rfl, -, -, -⟩ := hi9.shape; have v8 := ((g1.then g2).then g3).blk b8; obtain ⟨f80, f81, r80, r81⟩ := res_facts v8))
      obtain ⟨q0, q1, hr, g5⟩ := ret_fam (w0 := W0) v8 (((hW.then g1).then g2).then g3) (by omega) hi9 hm9
      refine bodyPost_ret (v := .tuple #[famV (.slice A9 G.cs.length cap9) mp9, .int .i64 0]) (by simp [results, Tryz.results45, go_sem, q0, q1]) rfl ⟨_, _, rfl, hr, g5⟩
    · rw [if_neg hv]
      generalize f.vacant nm = K at *
      replace hc1 : Aside (nameB nm = true) := hc1
      clear hs hm h0
      have k2 : ¬ n < 1 := by omega
      have k3 : ¬ n > 65536 := by omega
      have k4 : ¬ r < 0 := by omega
      have k5 : ¬ r > n := by omega
      go_enter Tryz.func45, Tryz.ntmps45
      go_wp2_with (first
        | (go_at_call 93; refine (c1 _).mono ?_; clear c1; rintro e w1 ⟨rfl, g1⟩; have v4 := g1.blk b4; obtain ⟨u40, u41⟩ := fam_facts v4)
        | (go_at_call 94; refine (c2 _ (hW.then g1)).mono ?_; clear c2; rintro e w2 ⟨rfl, g2⟩; clear u40 u41; have v8 := (g1.then g2).blk b8; obtain ⟨f80, f81, r80, r81⟩ := res_facts v8))
      obtain ⟨q0, q1, hr, g5⟩ := ret_zero (w0 := W0) v8 ((hW.then g1).then g2) (by omega)
      refine bodyPost_ret (v := .tuple #[famV (.slice none 0 0) none, .int .i64 K]) (by simp [results, Tryz.results45, go_sem, q0, q1]) rfl ⟨_, _, rfl, hr, g5⟩
  · rw [if_neg hc]
    clear hs hm h0 c2
    have hcs : nameB nm = false ∨ n < 1 ∨ n > 65536 ∨ r < 0 ∨ r > n := by
      cases h : nameB nm with
      | false => exact .inl rfl
      | true =>
        rw [h] at hc
        simp only [true_and] at hc
        omega
    clear hc
    generalize nameB nm = NB at *
    rcases hcs with k | k | k | k | k
    · subst k
      go_enter Tryz.func45, Tryz.ntmps45
      go_wp2_with (go_at_call 93; refine (c1 _).mono ?_; clear c1; rintro e w1 ⟨rfl, g1⟩; have v8 := g1.blk b8; obtain ⟨f80, f81, r80, r81⟩ := res_facts v8)
      obtain ⟨q0, q1, hr, g5⟩ := ret_zero (w0 := W0) v8 (hW.then g1) (by omega)
      refine bodyPost_ret (v := .tuple #[famV (.slice none 0 0) none, .int .i64 1]) (by simp [results, Tryz.results45, go_sem, q0, q1]) rfl ⟨_, _, rfl, hr, g5⟩
    all_goals
      cases NB
      all_goals
        go_enter Tryz.func45, Tryz.ntmps45
        go_wp2_with (go_at_call 93; refine (c1 _).mono ?_; clear c1; rintro e w1 ⟨rfl, g1⟩; have v8 := g1.blk b8; obtain ⟨f80, f81, r80, r81⟩ := res_facts v8)
        all_goals
          obtain ⟨q0, q1, hr, g5⟩ := ret_zero (w0 := W0) v8 (hW.then g1) (by omega)
          refine bodyPost_ret (v := .tuple #[famV (.slice none 0 0) none, .int .i64 1]) (by simp [results, Tryz.results45, go_sem, q0, q1]) rfl ⟨_, _, rfl, hr, g5⟩
end Go.Proofs.YtbfdnfkflnajlaaGreat

/-! family: Lookup, Range, Info. -/
namespace Go.Proofs.YtbfdnfkflnajlaaGreat
open Go.RowKit Go.Shelf
open Ext hiding One

theorem hasB_iff {n a k : Int} : hasB n a k = true ↔ 0 ≤ a ∧ 0 ≤ k ∧ a + k ≤ n := by
  unfold hasB
  rw [decide_eq_true_eq]
  omega
/-- what is looked up. -/
def Fam.lookup (f : Fam) (nm : List UInt8) (a : Int) : Option Int × Int :=
  match getV f.vols nm with
  | none => (none, 9)
  | some v => if 0 ≤ a ∧ a < v.n then (fnd v.l a, 0) else (none, 2)
def RetLk (x : Option Int × Int) (w : World) (e : Ending) (w' : World) : Prop := e = .returned (.tuple #[.int .i64 (x.1.getD 0), .bool x.1.isSome, .int .i64 x.2]) ∧ Grw w w'
set_option maxRecDepth 100000 in
set_option maxHeartbeats 1000000 in
theorem lookup_any {v : Value} {f : Fam} {nm : List UInt8} {a : Int} {W0 : World} (h : FamR W0 v f) (hf : f.WF) (hnm : nm.length ≤ 1000000) (ha : smallI a) :
    Calls Tryz.prog 62 #[v, strV nm, .int .i64 a] W0 (RetLk (f.lookup nm a) W0) := by
  have h0 := h
  obtain ⟨s, mp, rfl, hs, hm⟩ := h
  obtain ⟨A, cap, rfl, -, -, -⟩ := hs.shape
  obtain ⟨CL, hCL⟩ : ∃ CL, f.cs.length = CL := ⟨_, rfl⟩
  rw [hCL] at hs h0 ⊢
  have hW := Grw.alloc W0 (.cells #[.slice A CL cap, .map mp] 76)
  have c1 := find_fam (k := 1) (h0.grw hW) hf hnm ha
  unfold Fam.lookup
  have bad : ∀ k : Int, k ≠ 0 → Calls Tryz.prog 88 #[famV (.slice A CL cap) mp, strV nm, .int .i64 a, .int .i64 1] (W0.alloc (.cells #[.slice A CL cap, .map mp] 76)) (RetFind 0 0 none k (W0.alloc (.cells #[.slice A CL cap, .map mp] 76))) →
      Calls Tryz.prog 62 #[famV (.slice A CL cap) mp, strV nm, .int .i64 a] W0 (RetLk (none, k) W0) := by
    intro k hk c1
    clear hm hs h0
    have hk' : (k == 0) = false := by simpa using hk
    go_enter Tryz.func62, Tryz.ntmps62
    go_wp2_with (go_at_call 88; refine c1.mono ?_; clear c1; rintro e w1 ⟨rfl, g1⟩)
    refine bodyPost_ret (v := .tuple #[.int .i64 0, .bool false, .int .i64 k]) (by simp [results, Tryz.results62, go_sem]) rfl ⟨rfl, (hW.then g1).alc _⟩
  rcases c1 with ⟨hg, c1⟩ | ⟨u, p, t, hu, ht, htl, c1⟩
  · rw [hg]
    exact bad 9 (by decide) c1
  · rw [hu]
    simp only
    have hum := hf.vols u (getV_some hu).1
    by_cases hb : hasB u.n a 1 = true
    · rw [if_pos hb] at c1
      have hb' := hasB_iff.1 hb
      rw [if_pos (by omega)]
      have c2 := fun (W : World) (hg : Grw (W0.alloc (.cells #[.slice A CL cap, .map mp] 76)) W) => find_any (k := a) (ht.grw hg) (by rw [htl]; exact hum.2.2.2.2.2.1.vl) (by have := hum.2.2.1; omega)
      rw [htl] at c2
      generalize fnd u.l a = F at *
      generalize u.n = un at *
      generalize u.res = ur at *
      clear hm hs h0 hum hu htl hb hb' bad
      cases F with
      | none =>
        unfold findV at c2
        go_enter Tryz.func62, Tryz.ntmps62
        go_wp2_with (first
          | (go_at_call 88; refine c1.mono ?_; clear c1; rintro e w1 ⟨rfl, g1⟩; have g1a := g1.alc (.cells #[.int .i64 un, .int .i64 ur, .pointer p] 170))
          | (go_at_call 118; refine (c2 _ g1a).mono ?_; clear c2; rintro e w2 ⟨rfl, g2⟩))
        refine bodyPost_ret (v := .tuple #[.int .i64 0, .bool false, .int .i64 0]) (by simp [results, Tryz.results62, go_sem]) rfl ⟨rfl, (hW.then g1a).then g2⟩
      | some sl =>
        unfold findV at c2
        go_enter Tryz.func62, Tryz.ntmps62
        go_wp2_with (first
          | (go_at_call 88; refine c1.mono ?_; clear c1; rintro e w1 ⟨rfl, g1⟩; have g1a := g1.alc (.cells #[.int .i64 un, .int .i64 ur, .pointer p] 170))
          | (go_at_call 118; refine (c2 _ g1a).mono ?_; clear c2; rintro e w2 ⟨rfl, g2⟩))
        refine bodyPost_ret (v := .tuple #[.int .i64 sl, .bool true, .int .i64 0]) (by simp [results, Tryz.results62, go_sem]) rfl ⟨rfl, (hW.then g1a).then g2⟩
    · rw [if_neg hb] at c1
      rw [if_neg (fun h => hb (hasB_iff.2 (by omega)))]
      exact bad 2 (by decide) c1
/-- the extents in a range. -/
def Fam.range (f : Fam) (nm : List UInt8) (a n : Int) : List Ext × Int :=
  match getV f.vols nm with
  | none => ([], 9)
  | some v => if 0 ≤ a ∧ 0 ≤ n ∧ a + n ≤ v.n then (inL v.l a n, 0) else ([], 2)
def RetLE (x : List Ext × Int) (w : World) (e : Ending) (w' : World) : Prop := ∃ v, e = .returned (.tuple #[v, .int .i64 x.2]) ∧ OwnE w' w.heap.size v x.1 ∧ Grw w w'
set_option maxRecDepth 100000 in
set_option maxHeartbeats 1000000 in
/-- the range of the empty tree: nothing. -/
theorem range_nil {a n : Int} {W0 : World} : Calls Tryz.prog 92 #[treeV none, .int .i64 a, .int .i64 n] W0 (RetE W0.heap.size [] W0) := by
  by_cases h : withinB a n 65536 = true
  · have := range_any (t := .nil) (p := none) (W0 := W0) rfl NF.nil h
    simpa [Tr.toL, partsL] using this
  · have hg := Grw.alloc W0 (.cells #[.pointer none] 168)
    have c1 := cut_bad (p := none) (a := a) (n := n) (W0.alloc (.cells #[.pointer none] 168)) (by simpa using h)
    go_enter Tryz.func92, Tryz.ntmps92
    go_wp2_with (go_at_call 122; refine c1.mono ?_; clear c1; rintro e w1 ⟨q, v, rfl, t1, hown, g1⟩)
    go_ret
    have hk := Grw.alloc w1 (.cells #[.pointer q] 168)
    exact ⟨_, rfl, (own_low (hown.kept hk) hg.size), (hg.then g1).then hk⟩
set_option maxRecDepth 100000 in
set_option maxHeartbeats 1000000 in
theorem range_fam {v : Value} {f : Fam} {nm : List UInt8} {a n : Int} {W0 : World} (h : FamR W0 v f) (hf : f.WF) (hnm : nm.length ≤ 1000000) (ha : smallI a) :
    Calls Tryz.prog 43 #[v, strV nm, .int .i64 a, .int .i64 n] W0 (RetLE (f.range nm a n) W0) := by
  have h0 := h
  obtain ⟨s, mp, rfl, hs, hm⟩ := h
  obtain ⟨A, cap, rfl, -, -, -⟩ := hs.shape
  obtain ⟨CL, hCL⟩ : ∃ CL, f.cs.length = CL := ⟨_, rfl⟩
  rw [hCL] at hs h0 ⊢
  have hW := Grw.alloc W0 (.cells #[.slice A CL cap, .map mp] 76)
  have c1 := find_fam (k := n) (h0.grw hW) hf hnm ha
  have gen : ∀ (un ur : Int) (p : Option Addr) (k : Int) (l : List Ext), Calls Tryz.prog 88 #[famV (.slice A CL cap) mp, strV nm, .int .i64 a, .int .i64 n] (W0.alloc (.cells #[.slice A CL cap, .map mp] 76)) (RetFind un ur p k (W0.alloc (.cells #[.slice A CL cap, .map mp] 76))) →
      (∀ W, Grw (W0.alloc (.cells #[.slice A CL cap, .map mp] 76)) W → Calls Tryz.prog 92 #[treeV p, .int .i64 a, .int .i64 n] W (RetE W.heap.size l W)) →
      Calls Tryz.prog 43 #[famV (.slice A CL cap) mp, strV nm, .int .i64 a, .int .i64 n] W0 (RetLE (l, k) W0) := by
    intro un ur p k l c1 c2
    clear hm hs h0
    go_enter Tryz.func43, Tryz.ntmps43
    go_wp2_with (first
      | (go_at_call 88; refine c1.mono ?_; clear c1; rintro e w1 ⟨rfl, g1⟩; have g1a := g1.alc (.cells #[.int .i64 un, .int .i64 ur, .pointer p] 170))
      | (go_at_call 92; refine (c2 _ g1a).mono ?_; clear c2; rintro e w2 ⟨v2, rfl, ho2, g2⟩))
    refine bodyPost_ret (v := .tuple #[v2, .int .i64 k]) (by simp [results, Tryz.results43, go_sem]) rfl ⟨_, rfl, own_low ho2 ((hW.then g1a).size), (hW.then g1a).then g2⟩
  unfold Fam.range
  rcases c1 with ⟨hg, c1⟩ | ⟨u, p, t, hu, ht, htl, c1⟩
  · rw [hg]
    exact gen 0 0 none 9 [] c1 (fun W hg => range_nil)
  · rw [hu]
    simp only
    have hum := hf.vols u (getV_some hu).1
    by_cases hb : hasB u.n a n = true
    · rw [if_pos hb] at c1
      have hb' := hasB_iff.1 hb
      rw [if_pos hb']
      refine gen u.n u.res p 0 _ c1 (fun W hg => ?_)
      have := range_any (a := a) (n := n) (ht.grw hg) (by rw [htl]; exact hum.2.2.2.2.2.1) (withinB_iff.2 (by have := hum.2.2.1; omega))
      rw [htl, ← inL_eq hum.2.2.2.2.2.1] at this
      exact this
    · rw [if_neg hb] at c1
      rw [if_neg (fun h => hb (hasB_iff.2 h))]
      exact gen 0 0 none 2 [] c1 (fun W hg => range_nil)
end Go.Proofs.YtbfdnfkflnajlaaGreat

/-! family: Info. -/
namespace Go.Proofs.YtbfdnfkflnajlaaGreat
open Go.RowKit Go.Shelf
open Ext hiding One

theorem exc_single {f : Fam} {u : Vol} (hu : u ∈ f.vols) : singleN f.cs u.l = f.exc u.l := by
  have key : ∀ n, n ≤ f.slots → cnt1 f.cs (seenF u.l) n = sumTo (fun s => if f.cnt s = 1 then occL u.l s else 0) n := by
    intro n
    induction n with
    | zero => intro _; rfl
    | succ n ih =>
      intro hn
      rw [cnt1, sumTo, ih (by omega), Fam.cs_get (show n < f.slots by omega)]
      have hb := (occL_bound u.l n).1
      have hm : occL u.l n ≤ f.cnt n := cntVs_mem hu n
      congr 1
      by_cases h1 : f.cnt n = 1
      · rw [if_pos h1]
        unfold seenF
        by_cases h2 : 0 < occL u.l n
        · rw [if_pos ⟨by simpa using h2, by rw [h1]⟩]; omega
        · rw [if_neg (fun h => h2 (by simpa using h.1))]; omega
      · rw [if_neg h1, if_neg (fun h => h1 (by simpa using h.2))]
  unfold singleN Fam.exc
  rw [Fam.cs_length]
  exact key f.slots (Nat.le_refl _)
/-- what is known of a volume: its name, length, reservation, mapped blocks, exclusive blocks. -/
def infoV (nm : List UInt8) (n r m x : Int) : Value := .agg #[strV nm, .int .i64 n, .int .i64 r, .int .i64 m, .int .i64 x]
def Fam.infoV (f : Fam) (nm : List UInt8) : Value × Int :=
  match getV f.vols nm with
  | none => (YtbfdnfkflnajlaaGreat.infoV [] 0 0 0 0, 9)
  | some v => (YtbfdnfkflnajlaaGreat.infoV nm v.n v.res (sumL v.l) (f.exc v.l), 0)
def RetInfo (x : Value × Int) (w : World) (e : Ending) (w' : World) : Prop := e = .returned (.tuple #[x.1, .int .i64 x.2]) ∧ Grw w w'
theorem set_five {w0 w : World} {b : Nat} {c0 c1 c2 c3 c4 : Value} {t : TypeId} (v0 v1 v2 v3 v4 : Value) (hb : w.heap[b]? = some (.cells #[c0, c1, c2, c3, c4] t (0, 0))) (hg : Grw w0 w) (hn : w0.heap.size ≤ b) :
    (∀ o v, #[v0, v1, v2, v3, v4][o]? = some v → (((((w.setCell ⟨b, 0, none⟩ v0).setCell ⟨b, 1, none⟩ v1).setCell ⟨b, 2, none⟩ v2).setCell ⟨b, 3, none⟩ v3).setCell ⟨b, 4, none⟩ v4).cell? ⟨b, o, none⟩ = some v) ∧
    Grw w0 (((((w.setCell ⟨b, 0, none⟩ v0).setCell ⟨b, 1, none⟩ v1).setCell ⟨b, 2, none⟩ v2).setCell ⟨b, 3, none⟩ v3).setCell ⟨b, 4, none⟩ v4) := by
  have h1 : (((((w.setCell ⟨b, 0, none⟩ v0).setCell ⟨b, 1, none⟩ v1).setCell ⟨b, 2, none⟩ v2).setCell ⟨b, 3, none⟩ v3).setCell ⟨b, 4, none⟩ v4).heap[b]? = some (.cells #[v0, v1, v2, v3, v4] t (0, 0)) := by
    have h := setCell_blk (setCell_blk (setCell_blk (setCell_blk (setCell_blk hb 0 v0) 1 v1) 2 v2) 3 v3) 4 v4
    simpa using h
  refine ⟨fun o v hv => by rw [blk_cell h1 o]; exact hv, ?_⟩
  have g0 : Below w0.heap.size w0 w := hg
  have g1 := g0.setCell (p := ⟨b, 0, none⟩) hn v0
  have g2 := g1.setCell (p := ⟨b, 1, none⟩) hn v1
  have g3 := g2.setCell (p := ⟨b, 2, none⟩) hn v2
  have g4 := g3.setCell (p := ⟨b, 3, none⟩) hn v3
  exact g4.setCell (p := ⟨b, 4, none⟩) hn v4
theorem info_facts {w : World} {b : Nat} {v0 v1 v2 v3 v4 : Value} {t : TypeId} (hb : w.heap[b]? = some (.cells #[v0, v1, v2, v3, v4] t (0, 0))) :
    (w.frozen? ⟨b, 0, none⟩ = false ∧ w.frozen? ⟨b, 1, none⟩ = false ∧ w.frozen? ⟨b, 2, none⟩ = false ∧ w.frozen? ⟨b, 3, none⟩ = false ∧ w.frozen? ⟨b, 4, none⟩ = false) ∧ w.cell? ⟨b, 0, none⟩ = some v0 ∧ w.cell? ⟨b, 1, none⟩ = some v1 ∧ w.cell? ⟨b, 2, none⟩ = some v2 ∧ w.cell? ⟨b, 3, none⟩ = some v3 ∧ w.cell? ⟨b, 4, none⟩ = some v4 :=
  ⟨⟨blk_free hb 0, blk_free hb 1, blk_free hb 2, blk_free hb 3, blk_free hb 4⟩, blk_cell hb 0, blk_cell hb 1, blk_cell hb 2, blk_cell hb 3, blk_cell hb 4⟩
set_option maxRecDepth 100000 in
set_option maxHeartbeats 1000000 in
theorem info_any {v : Value} {f : Fam} {nm : List UInt8} {W0 : World} (h : FamR W0 v f) (hf : f.WF) (hnm : nm.length ≤ 1000000) :
    Calls Tryz.prog 42 #[v, strV nm] W0 (RetInfo (f.infoV nm) W0) := by
  have h0 := h
  obtain ⟨s, mp, rfl, hs, hm⟩ := h
  obtain ⟨A, cap, rfl, -, -, -⟩ := hs.shape
  have hcsl := Fam.cs_length f
  have hsl := hf.slots
  obtain ⟨CL, hCL⟩ : ∃ CL, f.cs.length = CL := ⟨_, rfl⟩
  rw [hCL] at hs h0 hcsl ⊢
  replace hcsl : Aside (CL = f.slots) := hcsl
  have hW := (Grw.alloc W0 (.cells #[.slice A CL cap, .map mp] 76)).alc (.cells #[.string ⟨#[]⟩, .int .i64 0, .int .i64 0, .int .i64 0, .int .i64 0] 98)
  have b2 : ((W0.alloc (.cells #[.slice A CL cap, .map mp] 76)).alloc (.cells #[.string ⟨#[]⟩, .int .i64 0, .int .i64 0, .int .i64 0, .int .i64 0] 98)).heap[W0.heap.size]? = some (.cells #[.slice A CL cap, .map mp] 76 (0, 0)) := (Grw.alloc _ _).blk (alloc_blk _ _)
  have b4 := alloc2_blk W0 (.cells #[.slice A CL cap, .map mp] 76) (.cells #[.string ⟨#[]⟩, .int .i64 0, .int .i64 0, .int .i64 0, .int .i64 0] 98)
  have c1 := find_fam (a := 0) (k := 0) (h0.grw hW) hf hnm (by unfold smallI; omega)
  unfold Fam.infoV
  rcases c1 with ⟨hg, c1⟩ | ⟨u, p, t, hu, ht, htl, c1⟩
  · rw [hg]
    clear hm hs h0 hg
    go_enter Tryz.func42, Tryz.ntmps42
    go_wp2_with (go_at_call 88; refine c1.mono ?_; clear c1; rintro e w1 ⟨rfl, g1⟩; have g1a := g1.alc (.cells #[.int .i64 0, .int .i64 0, .pointer none] 170); have v4 := (Grw.alloc w1 (.cells #[.int .i64 0, .int .i64 0, .pointer none] 170)).blk (g1.blk b4); obtain ⟨⟨f0, f1, f2, f3, f4⟩, r0, r1, r2, r3, r4⟩ := info_facts v4)
    obtain ⟨q5, g5⟩ := set_five (w0 := W0) (.string ⟨#[]⟩) (.int .i64 0) (.int .i64 0) (.int .i64 0) (.int .i64 0) v4 (hW.then g1a) (by omega)
    have q0 := q5 0 _ rfl
    have q1 := q5 1 _ rfl
    have q2 := q5 2 _ rfl
    have q3 := q5 3 _ rfl
    have q4 := q5 4 _ rfl
    refine bodyPost_ret (v := .tuple #[infoV [] 0 0 0 0, .int .i64 9]) (by simp [results, Tryz.results42, go_sem, infoV, q0, q1, q2, q3, q4]) rfl ⟨rfl, g5⟩
  · rw [hu]
    simp only
    have hum := hf.vols u (getV_some hu).1
    have hsing := exc_single (f := f) (getV_some hu).1
    have hu0 : hasB u.n 0 0 = true := hasB_iff.2 (by have := hum.2.1; omega)
    rw [if_pos hu0] at c1
    have hil := hum.2.2.2.2.2.2.2
    have hlen := hum.2.2.2.2.2.1.len hum.2.2.2.2.2.2.1 (by have := hum.2.1; omega)
    have hn6 := hum.2.2.1
    have c2 := fun (W : World) (hg : Grw ((W0.alloc (.cells #[.slice A CL cap, .map mp] 76)).alloc (.cells #[.string ⟨#[]⟩, .int .i64 0, .int .i64 0, .int .i64 0, .int .i64 0] 98)) W) => blocks_any (ht.grw hg)
    have c3 := fun (W : World) (hg : Grw ((W0.alloc (.cells #[.slice A CL cap, .map mp] 76)).alloc (.cells #[.string ⟨#[]⟩, .int .i64 0, .int .i64 0, .int .i64 0, .int .i64 0] 98)) W) => extents_any (n := u.n) (r := u.res) (ht.grw hg) (by rw [htl]; omega)
    have c4 := fun (W : World) (v : Value) (hg : Grw W0 W) (hv : Exts W v u.l) => single_any hv (hs.grw hg) (by
      unfold permB
      rw [List.all_eq_true]
      intro x hx
      have := hil x hx
      have := hcsl.out
      unfold inN
      rw [decide_eq_true_eq]
      omega) (by have := hcsl.out; omega)
    rw [htl] at c2 c3
    rw [hsing] at c4
    generalize u.n = un at *
    generalize u.res = ur at *
    generalize f.exc u.l = EX at *
    generalize sumL u.l = SU at *
    replace c4 : Aside (∀ (W : World) (v : Value) (hg : Grw W0 W) (hv : Exts W v u.l), _) := c4
    clear hm h0 hum hu htl hsing hu0 hil hlen hs
    go_enter Tryz.func42, Tryz.ntmps42
    go_wp2_with (go_at_call 88; refine c1.mono ?_; clear c1; rintro e w1 ⟨rfl, g1⟩)
    have g1a := g1.alc (.cells #[.int .i64 un, .int .i64 ur, .pointer p] 170)
    have v6 := alloc_blk w1 (.cells #[.int .i64 un, .int .i64 ur, .pointer p] 170)
    have v2 := (Grw.alloc w1 (.cells #[.int .i64 un, .int .i64 ur, .pointer p] 170)).blk (g1.blk b2)
    have v4 := (Grw.alloc w1 (.cells #[.int .i64 un, .int .i64 ur, .pointer p] 170)).blk (g1.blk b4)
    have hsz : W0.heap.size + 1 < w1.heap.size := (Array.getElem?_eq_some_iff.1 (g1.blk b4)).1
    generalize w1.alloc (.cells #[.int .i64 un, .int .i64 ur, .pointer p] 170) = W at g1a v6 v2 v4 ⊢
    have e0 := GrwX.cells (X := OwnR (W0.heap.size + 1) 1) v6 (OwnR.not (.inr (by omega))) 0
    have e1 := GrwX.cells (X := OwnR (W0.heap.size + 1) 1) v6 (OwnR.not (.inr (by omega))) 1
    have e2 := GrwX.cells (X := OwnR (W0.heap.size + 1) 1) v6 (OwnR.not (.inr (by omega))) 2
    have e3 := GrwX.cells (X := OwnR (W0.heap.size + 1) 1) v2 (OwnR.not (.inl (by omega))) 0
    simp only [List.getElem?_toArray, List.getElem?_cons_succ, List.getElem?_cons_zero] at e0 e1 e2 e3
    have gsx := GrwX.self (OwnR (W0.heap.size + 1) 1) W
    refine gx_region (OwnR (W0.heap.size + 1) 1) [(0, true), (1, true), (2, true), (3, true), (4, true), (5, true), (6, true), (7, true), (8, true), (10, true), (11, true), (12, true), (9, false), (13, false), (14, false), (15, true), (16, false), (17, true)] (by kernel_rfl) (by kernel_rfl) (fun c a d v w1 h => by cases d <;> exact h) ?_
    intro A hA
    iterate 12 (apply gx_q hA rfl rfl; intro pp; go_simp; rfl; go_simp)
    have k0 := Grw.drw W
    refine gx_e hA rfl rfl (fun K hK => ?_)
    go_wp2_with (go_at_call 89; refine (c2 _ (g1a.then k0)).mono ?_; clear c2; rintro e w2 ⟨rfl, g2⟩)
    have k2 := k0.then g2
    refine ⟨k2.x, ?_⟩
    refine gx_e hA rfl rfl (fun K hK => ?_)
    go_wp2_with (go_at_call 91; refine (c3 _ (g1a.then k2)).mono ?_; clear c3; rintro e w3 ⟨v3, rfl, ho3, g3⟩)
    have k3 := k2.then g3
    refine ⟨k3.x, ?_⟩
    refine gx_e hA rfl rfl (fun K hK => ?_)
    go_wp2_with (go_at_call 90; refine (c4.out _ _ (hW.then (g1a.then k3)) ho3.exts).mono ?_; clear c4; rintro e w4 ⟨rfl, g4⟩)
    have k4 := k3.then g4
    refine ⟨k4.x, ?_⟩
    iterate 1 (apply gx_q hA rfl rfl; intro pp; go_simp; rfl; go_simp)
    have v4' := k4.blk v4
    obtain ⟨⟨f0, f1, f2, f3, f4⟩, r0, r1, r2, r3, r4⟩ := info_facts v4'
    refine gx_e hA rfl rfl (fun K hK => ?_)
    go_wp2
    refine ⟨((((k4.x.set (X := OwnR (W0.heap.size + 1) 1) (p := ⟨W0.heap.size + 1, 0, none⟩) OwnR.at0 _).set (p := ⟨W0.heap.size + 1, 1, none⟩) OwnR.at0 _).set (p := ⟨W0.heap.size + 1, 2, none⟩) OwnR.at0 _).set (p := ⟨W0.heap.size + 1, 3, none⟩) OwnR.at0 _).set (p := ⟨W0.heap.size + 1, 4, none⟩) OwnR.at0 _, ?_⟩
    iterate 1 (apply gx_q hA rfl rfl; intro pp; go_simp; rfl; go_simp)
    refine pi_nil ?_
    go_wp2
    obtain ⟨q5, g5⟩ := set_five (w0 := W0) (strV nm) (.int .i64 un) (.int .i64 ur) (.int .i64 SU) (.int .i64 EX) v4' (hW.then (g1a.then k4)) (by omega)
    have q0 := q5 0 _ rfl
    have q1 := q5 1 _ rfl
    have q2 := q5 2 _ rfl
    have q3 := q5 3 _ rfl
    have q4 := q5 4 _ rfl
    refine bodyPost_ret (v := .tuple #[infoV nm un ur SU EX, .int .i64 0]) (by simp [results, Tryz.results42, go_sem, infoV, q0, q1, q2, q3, q4]) rfl ⟨rfl, g5⟩
end Go.Proofs.YtbfdnfkflnajlaaGreat

/-! family: Unmap. -/
namespace Go.Proofs.YtbfdnfkflnajlaaGreat
open Go.RowKit Go.Shelf
open Ext hiding One

/-- a family, some list and an error come back. -/
def RetFD (f : Fam) (k : Int) (w : World) (e : Ending) (w' : World) : Prop := ∃ s mp v l, e = .returned (.tuple #[famV s mp, v, .int .i64 k]) ∧ FamR w' (famV s mp) f ∧ Exts w' v l ∧ Grw w w'
def RetExD (x : Except Int Fam) (w : World) (e : Ending) (w' : World) : Prop :=
  match x with
  | .ok g => RetFD g 0 w e w'
  | .error k => RetFD fam0 k w e w'
theorem Exts.empty (w : World) : Exts w (.slice none 0 0) [] := Rows.nil w 3
theorem vol_facts {w : World} {b : Nat} {n r : Int} {p : Option Addr} {t : TypeId} (hb : w.heap[b]? = some (.cells #[.int .i64 n, .int .i64 r, .pointer p] t (0, 0))) :
    w.cell? ⟨b, 0, none⟩ = some (.int .i64 n) ∧ w.cell? ⟨b, 1, none⟩ = some (.int .i64 r) ∧ w.cell? ⟨b, 2, none⟩ = some (.pointer p) ∧ w.frozen? ⟨b, 1, none⟩ = false ∧ w.frozen? ⟨b, 2, none⟩ = false :=
  ⟨blk_cell hb 0, blk_cell hb 1, blk_cell hb 2, blk_free hb 1, blk_free hb 2⟩
theorem vol_set {w : World} {b : Nat} {n r : Int} {p q : Option Addr} {t : TypeId} (hb : w.heap[b]? = some (.cells #[.int .i64 n, .int .i64 r, .pointer p] t (0, 0))) :
    (w.setCell ⟨b, 2, none⟩ (.pointer q)).heap[b]? = some (.cells #[.int .i64 n, .int .i64 r, .pointer q] t (0, 0)) := by
  simpa using setCell_blk hb 2 (.pointer q)
theorem blk_set {w : World} {a b o : Nat} {v : Value} {x : Obj} (hb : w.heap[a]? = some x) (hn : a ≠ b) : (w.setCell ⟨b, o, none⟩ v).heap[a]? = some x := by
  rw [Below.heap_setCell _ _ _ _ (by simpa using hn)]
  exact hb
theorem Grw.setOwn {w0 w : World} {b o : Nat} (hg : Grw w0 w) (hb : w0.heap.size ≤ b) (v : Value) : Grw w0 (w.setCell ⟨b, o, none⟩ v) :=
  show Below _ _ _ from Below.setCell (show Below _ _ _ from hg) (p := ⟨b, o, none⟩) hb v
theorem Exts.setB {w : World} {s : Value} {l : List Ext} {b o : Nat} {C : Array Value} {v : Value} {t : TypeId} {fr : Nat × Nat} (hb : w.heap[b]? = some (.cells C t fr)) (hC : ∀ x ∈ C.toList, ∀ c, x ≠ .int .i64 c) (h : Exts w s l) : Exts (w.setCell ⟨b, o, none⟩ v) s l :=
  Rows.setOther hb (fun x hx y hy => by
    obtain ⟨cs, hcs, e⟩ := List.mem_flatten.1 hy
    obtain ⟨z, _, rfl⟩ := List.mem_map.1 hcs
    simp only [extC, List.mem_cons, List.not_mem_nil, or_false] at e
    rcases e with rfl | rfl | rfl <;> exact hC x hx _) h
theorem Exts.ret {w : World} {b : Nat} {s v : Value} {mp : Option Nat} {l : List Ext} {cs : List Int} (hb : w.heap[b]? = some (.cells #[.slice none 0 0, .map none] 76 (0, 0))) (hs : Ints w s cs) (h : Exts w v l) :
    Exts ((w.setCell ⟨b, 0, none⟩ s).setCell ⟨b, 1, none⟩ (.map mp)) v l := by
  have k1 := setCell_blk hb 0 s
  obtain ⟨A, cap, rfl, -⟩ := hs.shape
  refine (h.setB hb ?_).setB k1 ?_
  · intro x hx c
    simp only [List.mem_cons, List.not_mem_nil, or_false] at hx
    rcases hx with rfl | rfl <;> simp
  · intro x hx c
    simp at hx
    rcases hx with rfl | rfl <;> simp
theorem cs_nonneg {g : Fam} : negB g.cs = false := by
  unfold negB
  rw [List.any_eq_false]
  intro c hc
  obtain ⟨i, _, rfl⟩ := List.mem_map.1 hc
  have := cntVs_nonneg g.vols i
  simp only [decide_eq_true_eq]
  unfold Fam.cnt
  omega
theorem cs_small {f : Fam} (hf : f.WF) : ∀ c ∈ f.cs, -1000000000 ≤ c ∧ c ≤ 1000000000 := by
  intro c hc
  obtain ⟨i, _, rfl⟩ := List.mem_map.1 hc
  have := cnt_bound hf i
  omega
theorem getV_len {f : Fam} (hf : f.WF) {nm : List UInt8} {u : Vol} (h : getV f.vols nm = some u) : nm.length ≤ 16 ∧ u.name = nm := by
  obtain ⟨h1, h2⟩ := getV_some h
  have := nameB_len (hf.vols u h1).1
  rw [h2] at this
  exact ⟨this.2, h2⟩
set_option maxRecDepth 100000 in
set_option maxHeartbeats 2000000 in
theorem unmap_any {v : Value} {f : Fam} {nm : List UInt8} {a n : Int} {W0 : World} (h : FamR W0 v f) (hf : f.WF) (hnm : nm.length ≤ 1000000) (ha : smallI a) :
    Calls Tryz.prog 65 #[v, strV nm, .int .i64 a, .int .i64 n] W0 (RetExD (f.unmap nm a n) W0) := by
  have h0 := h
  obtain ⟨s, mp, rfl, hs, hm⟩ := h
  obtain ⟨A, cap, rfl, -, -, -⟩ := hs.shape
  have hcsl := Fam.cs_length f
  obtain ⟨CL, hCL⟩ : ∃ CL, f.cs.length = CL := ⟨_, rfl⟩
  rw [hCL] at hs h0 hcsl ⊢
  replace hcsl : Aside (CL = f.slots) := hcsl
  have hW := (Grw.alloc W0 (.cells #[.slice A CL cap, .map mp] 76)).alc (.cells #[.slice none 0 0, .map none] 76)
  have b4 : ((W0.alloc (.cells #[.slice A CL cap, .map mp] 76)).alloc (.cells #[.slice none 0 0, .map none] 76)).heap[W0.heap.size]? = some (.cells #[.slice A CL cap, .map mp] 76 (0, 0)) := (Grw.alloc _ _).blk (alloc_blk _ _)
  have b8 := alloc2_blk W0 (.cells #[.slice A CL cap, .map mp] 76) (.cells #[.slice none 0 0, .map none] 76)
  have c1 := find_fam (k := n) (h0.grw hW) hf hnm ha
  have bad : ∀ k : Int, k ≠ 0 → Calls Tryz.prog 88 #[famV (.slice A CL cap) mp, strV nm, .int .i64 a, .int .i64 n] ((W0.alloc (.cells #[.slice A CL cap, .map mp] 76)).alloc (.cells #[.slice none 0 0, .map none] 76)) (RetFind 0 0 none k ((W0.alloc (.cells #[.slice A CL cap, .map mp] 76)).alloc (.cells #[.slice none 0 0, .map none] 76))) →
      Calls Tryz.prog 65 #[famV (.slice A CL cap) mp, strV nm, .int .i64 a, .int .i64 n] W0 (RetFD fam0 k W0) := by
    intro k hk c1
    clear hm hs h0
    have hk' : (k == 0) = false := by simpa using hk
    go_enter Tryz.func65, Tryz.ntmps65
    go_wp2_with (go_at_call 88; refine c1.mono ?_; clear c1; rintro e w1 ⟨rfl, g1⟩; have g1a := g1.alc (.cells #[.int .i64 0, .int .i64 0, .pointer none] 170); have v8 := (Grw.alloc w1 (.cells #[.int .i64 0, .int .i64 0, .pointer none] 170)).blk (g1.blk b8); obtain ⟨f80, f81, r80, r81⟩ := res_facts v8)
    obtain ⟨q0, q1, hr, g5⟩ := ret_zero (w0 := W0) v8 (hW.then g1a) (by omega)
    refine bodyPost_ret (v := .tuple #[famV (.slice none 0 0) none, .slice none 0 0, .int .i64 k]) (by simp [results, Tryz.results65, go_sem, q0, q1]) rfl ⟨_, _, _, _, rfl, hr, Exts.empty _, g5⟩
  unfold Fam.unmap
  rcases c1 with ⟨hg, c1⟩ | ⟨u, p, t, hu, ht, htl, c1⟩
  · rw [hg]
    exact bad 9 (by decide) c1
  · rw [hu]
    simp only
    have hum := hf.vols u (getV_some hu).1
    by_cases hb : hasB u.n a n = true
    · rw [if_pos hb] at c1
      have hb' := hasB_iff.1 hb
      rw [if_pos hb']
      clear bad
      have hn6 := hum.2.2.1
      have hnf := hum.2.2.2.2.2.1
      have hslots := hf.slots
      have hG : f.unmap nm a n = .ok (f.put ⟨u.name, u.n, u.res, cutL u.l a n⟩) := by unfold Fam.unmap; rw [hu]; simp only; rw [if_pos hb']
      have hcs := cs_unmap hf hu hG
      have hname := (getV_len hf hu).2
      rw [hname] at hG hcs ⊢
      have hwb : withinB a n 65536 = true := withinB_iff.2 (by omega)
      have c2 := fun (W : World) (hg : Grw ((W0.alloc (.cells #[.slice A CL cap, .map mp] 76)).alloc (.cells #[.slice none 0 0, .map none] 76)) W) => cut_any (a := a) (n := n) (ht.grw hg) (by rw [htl]; exact hnf) hwb
      have hct := cutT_toL (t := t) (by rw [htl]; exact hnf) hb'.1 hb'.2.1 (by omega)
      rw [htl] at c2 hct
      rw [← inL_eq hnf] at c2
      have hin := inL_in hnf hum.2.2.2.2.2.2.2 hb'.1 hb'.2.1 (show a + n ≤ 65536 by omega)
      have hsum := (VL.sums (inL_NF hnf a n).vl).1
      have c3 := fun (W : World) (v : Value) (hg : Grw W0 W) (hv : Exts W v (inL u.l a n)) => drop_any hv (hs.grw hg) (by rw [Fam.cs_length]; exact hin) (by rw [Fam.cs_length]; exact hslots) (by omega) (cs_small hf) (by rw [hcs]; exact cs_nonneg)
      rw [hcs] at c3
      have c4 := fun (W : World) (s : Value) (p : Option Addr) (hg : Grw W0 W) (hi : Ints W s (f.put ⟨nm, u.n, u.res, cutL u.l a n⟩).cs) (ht : IsT W p (cutT t a n)) => with_any (n := u.n) (r := u.res) (h0.grw hg) hf hnm hi ht hct.1 rfl
      generalize f.put ⟨nm, u.n, u.res, cutL u.l a n⟩ = G at *
      generalize cutT t a n = T2 at *
      generalize inL u.l a n = OL at *
      generalize u.n = un at *
      generalize u.res = ur at *
      replace c3 : Aside (∀ (W : World) (v : Value) (hg : Grw W0 W) (hv : Exts W v OL), _) := c3
      replace c4 : Aside (∀ (W : World) (s : Value) (p : Option Addr) (hg : Grw W0 W) (hi : Ints W s G.cs) (ht : IsT W p T2), _) := c4
      clear hs hm h0 hu ht htl hum hb hb' hn6 hnf hslots hG hcs hname hwb hct hin hsum
      go_enter Tryz.func65, Tryz.ntmps65
      go_wp2_with (first
        | (go_at_call 88; refine c1.mono ?_; clear c1; rintro e w1 ⟨rfl, g1⟩; have g1a := g1.alc (.cells #[.int .i64 un, .int .i64 ur, .pointer p] 170); have v11 := alloc_blk w1 (.cells #[.int .i64 un, .int .i64 ur, .pointer p] 170); have hbx := g1.size)
        | (go_at_call 122; refine (c2 _ g1a).mono ?_; clear c2; rintro e w2 ⟨p2, v2, rfl, t2, ho2, g2⟩; simp only [World.size_alloc] at hbx ho2; have v11a := (Grw.alloc w2 (.cells #[.pointer p2] 168)).blk (g2.blk v11); obtain ⟨r110, r111, r112, f111, f112⟩ := vol_facts v11a; have gW2 := ((hW.then g1a).then g2).alc (.cells #[.pointer p2] 168); have v4a := (Grw.alloc w2 (.cells #[.pointer p2] 168)).blk ((g1a.then g2).blk b4); have v4s := blk_set (b := w1.heap.size) (o := 2) (v := .pointer p2) v4a (by omega); obtain ⟨u40, u41⟩ := fam_facts v4s)
        | (go_at_call 123; have ho2s := ownsRow_setCell_below (ho2.kept (Grw.alloc w2 (.cells #[.pointer p2] 168))) (a := ⟨w1.heap.size, 2, none⟩) (Nat.lt_succ_self _) (.pointer p2); refine (c3.out _ _ (gW2.setOwn (by omega) _) (OwnE.exts ho2s)).mono ?_; clear c3; rintro e w3 ⟨s3, v3, l3, rfl, hi3, he3, g3⟩; obtain ⟨A3, cap3, rfl, -, -, -⟩ := hi3.shape; have g3a := g3.alc (.cells #[.slice A3 G.cs.length cap3] 73); have v4b := (Grw.alloc w3 (.cells #[.slice A3 G.cs.length cap3] 73)).blk (g3.blk v4s); clear u40 u41; obtain ⟨u40, u41⟩ := fam_facts v4b; have v11b := (Grw.alloc w3 (.cells #[.slice A3 G.cs.length cap3] 73)).blk (g3.blk (vol_set (q := p2) v11a)); clear r110 r111 r112 f111 f112; obtain ⟨r110, r111, r112, -, -⟩ := vol_facts v11b)
        | (go_at_call 95; refine (c4.out _ _ _ ((gW2.setOwn (by omega) _).then g3a) (hi3.grw (Grw.alloc _ _)) ((IsT.set v11a (by decide) 2 (.pointer p2) (t2.grw (Grw.alloc _ _))).grw g3a)).mono ?_; clear c4; rintro e w4 ⟨s9, mp9, rfl, hr9, g4⟩; obtain ⟨hi9, hm9⟩ := hr9.parts; obtain ⟨A9, cap9, rfl, -, -, -⟩ := hi9.shape; have v8 := g4.blk ((Grw.alloc w3 (.cells #[.slice A3 G.cs.length cap3] 73)).blk (g3.blk (blk_set (b := w1.heap.size) (o := 2) (v := .pointer p2) ((Grw.alloc w2 (.cells #[.pointer p2] 168)).blk ((g1a.then g2).blk b8)) (by omega)))); obtain ⟨f80, f81, r80, r81⟩ := res_facts v8))
      have he9 := (he3.grw (Grw.alloc w3 (.cells #[.slice A3 G.cs.length cap3] 73))).grw g4
      obtain ⟨q0, q1, hr, g5⟩ := ret_fam (w0 := W0) v8 (((gW2.setOwn (by omega) _).then g3a).then g4) (by omega) hi9 hm9
      refine bodyPost_ret (v := .tuple #[famV (.slice A9 G.cs.length cap9) mp9, v3, .int .i64 0]) (by simp [results, Tryz.results65, go_sem, q0, q1]) rfl ⟨_, _, v3, _, rfl, hr, Exts.ret v8 hi9 he9, g5⟩
    · rw [if_neg hb] at c1
      rw [if_neg (fun h => hb (hasB_iff.2 h))]
      exact bad 2 (by decide) c1
end Go.Proofs.YtbfdnfkflnajlaaGreat
