/-
  family: small functions. family: Names, Slots, Count, Free, vacant. family: with, Name, New. family: Name, New.
-/
import Derived.Test.YtbfdnfkflnajlaaGreatJ05
import Derived.Test.YtbfdnfkflnajlaaGreatJ14
import Derived.Test.YtbfdnfkflnajlaaGreatJ15
import Derived.Shelf.SlMaps.Clone
import Derived.Ground.SlmcProg
import Derived.Laws.IdiomStrings
import Derived.Lib.Strings
set_option linter.unusedVariables false
set_option linter.unusedSimpArgs false
/-! family: small functions. -/
namespace Go.Proofs.YtbfdnfkflnajlaaGreat
open Go.RowKit
open Ext hiding One

/-- a number that no reckoning takes out of its kind. -/
def smallI (n : Int) : Prop := -1000000000 ≤ n ∧ n ≤ 1000000000
def hasB (n a k : Int) : Bool := decide (0 ≤ a ∧ 0 ≤ k ∧ a ≤ n ∧ k ≤ n - a)
set_option maxRecDepth 100000 in
set_option maxHeartbeats 1000000 in
theorem has_any {n r a k : Int} {p : Option Addr} {W0 : World} (hn : smallI n) (ha : smallI a) :
    Calls Tryz.prog 149 #[volV n r p, .int .i64 a, .int .i64 k] W0 fun e w' => e = .returned (.bool (hasB n a k)) ∧ Grw W0 w' := by
  obtain ⟨n1, n2⟩ := hn
  obtain ⟨a1, a2⟩ := ha
  have hg := Grw.alloc W0 (.cells #[.int .i64 n, .int .i64 r, .pointer p] 170)
  obtain ⟨R, hR⟩ : ∃ R, hasB n a k = R := ⟨_, rfl⟩
  rw [hR]
  replace hR : Aside (hasB n a k = R) := hR
  go_enter Tryz.func149, Tryz.ntmps149
  go_wp2
  all_goals
    go_ret
    refine ⟨?_, hg⟩
    rw [← hR.out]
    refine congrArg (fun b => Ending.returned (.bool b)) ?_
    unfold hasB
  all_goals first | exact decide_eq_decide.2 (by constructor <;> intro <;> omega) | exact (decide_eq_false (by omega)).symm
/-- what 'find' hands back: a volume's value and an error. -/
def RetFind (n r : Int) (p : Option Addr) (k : Int) (w : World) (e : Ending) (w' : World) : Prop := e = .returned (.tuple #[volV n r p, .int .i64 k]) ∧ Grw w w'
/-- a row of three cells, all written. -/
theorem set_three {w0 w : World} {b : Nat} {cs : Array Value} {t : TypeId} (v0 v1 v2 : Value) (hb : w.heap[b]? = some (.cells cs t (0, 0))) (hg : Grw w0 w) (hn : w0.heap.size ≤ b) (hs : cs.size = 3) :
    (∀ o v, #[v0, v1, v2][o]? = some v → (((w.setCell ⟨b, 0, none⟩ v0).setCell ⟨b, 1, none⟩ v1).setCell ⟨b, 2, none⟩ v2).cell? ⟨b, o, none⟩ = some v) ∧ Grw w0 (((w.setCell ⟨b, 0, none⟩ v0).setCell ⟨b, 1, none⟩ v1).setCell ⟨b, 2, none⟩ v2) := by
  have h1 := setCell_blk hb 0 v0
  have h2 := setCell_blk h1 1 v1
  have h3 := setCell_blk h2 2 v2
  have hcs : ((cs.setIfInBounds 0 v0).setIfInBounds 1 v1).setIfInBounds 2 v2 = #[v0, v1, v2] := by
    apply Array.ext
    · simp [hs]
    · intro i h1 h2
      simp [hs] at h1
      match i, h1 with
      | 0, _ => simp [Array.getElem_setIfInBounds, hs]
      | 1, _ => simp [Array.getElem_setIfInBounds, hs]
      | 2, _ => simp [Array.getElem_setIfInBounds, hs]
  rw [hcs] at h3
  refine ⟨fun o v hv => by rw [blk_cell h3 o]; exact hv, ?_⟩
  exact show Below _ _ _ from ((Below.setCell (show Below _ _ _ from hg) (p := ⟨b, 0, none⟩) hn v0).setCell (p := ⟨b, 1, none⟩) hn v1).setCell (p := ⟨b, 2, none⟩) hn v2
set_option maxRecDepth 100000 in
set_option maxHeartbeats 1000000 in
theorem find_fam {v : Value} {f : Fam} {nm : List UInt8} {a k : Int} {W0 : World} (h : FamR W0 v f) (h0 : f.WF) (hnm : nm.length ≤ 1000000) (ha : smallI a) :
    (getV f.vols nm = none ∧ Calls Tryz.prog 88 #[v, strV nm, .int .i64 a, .int .i64 k] W0 (RetFind 0 0 none 9 W0)) ∨
    ∃ u p t, getV f.vols nm = some u ∧ IsT W0 p t ∧ t.toL = u.l ∧
      Calls Tryz.prog 88 #[v, strV nm, .int .i64 a, .int .i64 k] W0 (if hasB u.n a k = true then RetFind u.n u.res p 0 W0 else RetFind 0 0 none 2 W0) := by
  obtain ⟨s, mp, rfl, hs, hm⟩ := h
  obtain ⟨A, cap, rfl, -, -, -⟩ := hs.shape
  generalize f.cs.length = CL
  have gs := Grw.self W0
  have hW := (Grw.alloc W0 (.cells #[.slice A CL cap, .map mp] 76)).alc (.cells #[.int .i64 0, .int .i64 0, .pointer none] 170)
  have b8 := alloc2_blk W0 (.cells #[.slice A CL cap, .map mp] 76) (.cells #[.int .i64 0, .int .i64 0, .pointer none] 170)
  rcases hm.look hnm with ⟨hg0, hlook⟩ | ⟨u, p, t, hu, ht, htl, hlook⟩
  · refine .inl ⟨hg0, ?_⟩
    clear hg0 hs hm
    go_enter Tryz.func88, Tryz.ntmps88
    go_wp2
    refine bodyPost_ret (v := .tuple #[volV 0 0 none, .int .i64 9]) (by simp [results, Tryz.results88, go_sem]) rfl ⟨rfl, by go_simp⟩
  · refine .inr ⟨u, p, t, hu, ht, htl, ?_⟩
    have hum := h0.vols u (getV_some hu).1
    have c1 := fun (w : World) => has_any (r := u.res) (p := p) (k := k) (W0 := w) (n := u.n) (by have := hum.2.1; have := hum.2.2.1; unfold smallI; omega) ha
    clear hm hs hu htl ht hum
    by_cases hb : hasB u.n a k = true
    · rw [if_pos hb]
      rw [hb] at c1
      replace hb : Aside (hasB u.n a k = true) := hb
      generalize u.n = un at *
      generalize u.res = ur at *
      have hW3 := hW.alc (.cells #[.int .i64 un, .int .i64 ur, .pointer p] 170)
      have b10 := alloc_blk ((W0.alloc (.cells #[.slice A CL cap, .map mp] 76)).alloc (.cells #[.int .i64 0, .int .i64 0, .pointer none] 170)) (.cells #[.int .i64 un, .int .i64 ur, .pointer p] 170)
      simp only [World.size_alloc] at b10
      have b8' := (Grw.alloc _ (.cells #[.int .i64 un, .int .i64 ur, .pointer p] 170)).blk b8
      go_enter Tryz.func88, Tryz.ntmps88
      go_wp2_with (go_at_call 149; refine (c1 _).mono ?_; clear c1; rintro e w1 ⟨rfl, g1⟩; have v8 := g1.blk b8'; have f80 := blk_free v8 0; have f81 := blk_free v8 1; have f82 := blk_free v8 2; have r80 := blk_cell v8 0; have r81 := blk_cell v8 1; have r82 := blk_cell v8 2; have v10 := g1.blk b10; have r0 := blk_cell v10 0; have r1 := blk_cell v10 1; have r2 := blk_cell v10 2; simp only [List.getElem?_toArray, List.getElem?_cons_succ, List.getElem?_cons_zero] at r0 r1 r2 r80 r81 r82)
      obtain ⟨q5, g5⟩ := set_three (.int .i64 un) (.int .i64 ur) (.pointer p) v8 (hW3.then g1) (by simp) rfl
      have q0 := q5 0 _ rfl
      have q1 := q5 1 _ rfl
      have q2 := q5 2 _ rfl
      refine bodyPost_ret (v := .tuple #[volV un ur p, .int .i64 0]) (by simp [results, Tryz.results88, go_sem, q0, q1, q2]) rfl ⟨rfl, g5⟩
    · rw [if_neg hb]
      replace hb : hasB u.n a k = false := by simpa using hb
      rw [hb] at c1
      replace hb : Aside (hasB u.n a k = false) := hb
      generalize u.n = un at *
      generalize u.res = ur at *
      have hW3 := hW.alc (.cells #[.int .i64 un, .int .i64 ur, .pointer p] 170)
      have b8' := (Grw.alloc _ (.cells #[.int .i64 un, .int .i64 ur, .pointer p] 170)).blk b8
      go_enter Tryz.func88, Tryz.ntmps88
      go_wp2_with (go_at_call 149; refine (c1 _).mono ?_; clear c1; rintro e w1 ⟨rfl, g1⟩; have v8 := g1.blk b8'; have f80 := blk_free v8 0; have f81 := blk_free v8 1; have f82 := blk_free v8 2; have r80 := blk_cell v8 0; have r81 := blk_cell v8 1; have r82 := blk_cell v8 2; simp only [List.getElem?_toArray, List.getElem?_cons_succ, List.getElem?_cons_zero] at r80 r81 r82)
      obtain ⟨q5, g5⟩ := set_three (.int .i64 0) (.int .i64 0) (.pointer none) v8 (hW3.then g1) (by simp) rfl
      have q0 := q5 0 _ rfl
      have q1 := q5 1 _ rfl
      have q2 := q5 2 _ rfl
      refine bodyPost_ret (v := .tuple #[volV 0 0 none, .int .i64 2]) (by simp [results, Tryz.results88, go_sem, q0, q1, q2]) rfl ⟨rfl, g5⟩
end Go.Proofs.YtbfdnfkflnajlaaGreat

/-! family: Names, Slots, Count, Free, vacant. -/
namespace Go.Proofs.YtbfdnfkflnajlaaGreat
open Go.RowKit
open Ext hiding One

/-- strings, read through a slice. -/
def Strs (w : World) (v : Value) (l : List (List UInt8)) : Prop := Rows w 1 v l.length (l.map strV)
theorem Strs.grw {w w' : World} {v : Value} {l : List (List UInt8)} (hg : Grw w w') (h : Strs w v l) : Strs w' v l := Rows.grw hg h
theorem Strs.shape {w : World} {v : Value} {l : List (List UInt8)} (h : Strs w v l) : ∃ A cap, v = .slice A l.length cap ∧ l.length ≤ cap ∧ cap ≤ maxLen ∧
    ∀ i x, l[i]? = some x → ∃ b off, A = some ⟨b, off, none⟩ ∧ w.cell? ⟨b, off + i, none⟩ = some (strV x) := by
  obtain ⟨h1, h2⟩ := h
  rcases h2 with ⟨rfl, h0⟩ | ⟨b, off, cap, rfl, hc, hm, hcell⟩
  · refine ⟨none, 0, by rw [h0], by omega, by unfold maxLen; omega, fun i x hx => ?_⟩
    rw [List.getElem?_eq_none (by omega)] at hx
    cases hx
  · exact ⟨_, cap, rfl, hc, hm, fun i x hx => ⟨b, off, rfl, hcell _ _ (by simp [hx])⟩⟩
/-- the names in their order. -/
def Fam.names (f : Fam) : List (List UInt8) := f.vols.map Vol.name
theorem names_sorted {f : Fam} (h : f.WF) : f.names.Pairwise (fun a b => a < b) := List.pairwise_map.2 (h.sorted.imp fun h => h)
theorem names_nodup {f : Fam} (h : f.WF) : f.names.Nodup := by
  show List.Pairwise (fun a b => a ≠ b) f.names
  refine (names_sorted h).imp (fun {a b} hab => fun e => ?_)
  rw [e] at hab
  exact List.lt_irrefl b hab
theorem enc_str : (Go.Proofs.encStr : List UInt8 → Value) = strV := rfl
theorem names_keys {w : World} {b n : Nat} {D : DataW Value} {f : Fam} (h : f.WF) (ho : w.ownsMap Tryz.prog 9 Rv b n D) (hd : DatF w D f.vols) : f.names.Perm (strKeys D) := by
  obtain ⟨es, rfl, hp, hk⟩ := ho.entries lawS
  obtain ⟨es', e, hk'⟩ := ho.keysOf
  injection e with e
  subst e
  refine perm_strKeys hp (fun p hpm => ?_) (names_nodup h) (fun x => ?_)
  · obtain ⟨v, hv⟩ := hk' p hpm
    obtain ⟨x, _, hx, _⟩ := Maps.keyOf_str Tryz.underlying9 hv
    exact ⟨x, hx⟩
  · rw [hd.2.1 x]
    unfold Fam.names
    rw [List.mem_map, Option.isSome_iff_exists]
    constructor
    · rintro ⟨v, hv, rfl⟩
      exact ⟨v, getV_mem h.sorted hv⟩
    · rintro ⟨v, hv⟩
      exact ⟨v, (getV_some hv).1, (getV_some hv).2⟩
theorem names_merge {f : Fam} {ss : List (List UInt8)} (h : f.WF) (hp : ss.Perm f.names) : ss.mergeSort (fun x y => decide (x ≤ y)) = f.names := by
  have tr : ∀ a b c : List UInt8, leB a b = true → leB b c = true → leB a c = true := fun a b c h1 h2 => by simp only [leB, decide_eq_true_eq] at *; exact List.le_trans h1 h2
  have to : ∀ a b : List UInt8, (leB a b || leB b a) = true := fun a b => by simp only [leB, Bool.or_eq_true, decide_eq_true_eq]; exact List.le_total a b
  refine List.Perm.eq_of_pairwise (le := fun a b => leB a b = true) (fun a b _ _ h1 h2 => ?_) (List.pairwise_mergeSort tr to ss) ((names_sorted h).imp fun {a b} hab => ?_) ((List.mergeSort_perm ss leB).trans hp)
  · simp only [leB, decide_eq_true_eq] at h1 h2
    exact List.le_antisymm h1 h2
  · simp only [leB, decide_eq_true_eq]
    exact List.le_of_lt hab
/-- the names come back. -/
def RetStrs (l : List (List UInt8)) (w : World) (e : Ending) (w' : World) : Prop := ∃ v, e = .returned v ∧ Strs w' v l ∧ Grw w w'
set_option maxRecDepth 100000 in
set_option maxHeartbeats 1000000 in
theorem names_any {v : Value} {f : Fam} {W0 : World} (h : FamR W0 v f) (hf : f.WF) :
    Calls Tryz.prog 40 #[v] W0 (RetStrs f.names W0) := by
  obtain ⟨s, mp, rfl, hs, hm⟩ := h
  obtain ⟨A, cap, rfl, -, -, -⟩ := hs.shape
  generalize f.cs.length = CL
  clear hs
  have hW := Grw.alloc W0 (.cells #[.slice A CL cap, .map mp] 76)
  have c1 := fun (W : World) => callsIn_wide.1 (Tryz.mapsKeys mp W)
  have c2 : ∀ W, Grw W0 W → Calls Tryz.prog 85 #[.func (.func 148) #[] #[.pointer (some ⟨W.heap.size, 0, none⟩)]] (W.alloc (.cells #[.map mp] 74)) (RetStrs f.names (W.alloc (.cells #[.map mp] 74))) := by
    intro W hW
    rcases hm.grw hW with ⟨rfl, h0⟩ | ⟨b, D, rfl, ho, hd⟩
    · refine (callsIn_wide.1 (Tryz.sortedKeysNil W)).mono ?_
      rintro e w' ⟨v, ss, rfl, rfl, hown, -, hb⟩
      refine ⟨v, rfl, ?_, hb⟩
      have : f.names = [] := by unfold Fam.names; rw [h0]; rfl
      rw [this]
      rw [List.mergeSort_nil, enc_str] at hown
      exact Rows.own hown
    · have hsz := hd.1
      have hfew := hf.few
      refine (callsIn_wide.1 (Tryz.sortedKeys b _ D Rv W ho (by unfold maxLen; omega) (by omega))).mono ?_
      rintro e w' ⟨v, ss, rfl, hS, hown, -, hb⟩
      have hp : ss.Perm f.names := hS.trans (names_keys hf ho hd).symm
      refine ⟨v, rfl, ?_, hb⟩
      rw [names_merge hf hp, hp.length_eq, enc_str] at hown
      exact Rows.own hown
  clear hm
  replace c1 := c1 (W0.alloc (.cells #[.slice A CL cap, .map mp] 76))
  replace c2 := c2 _ hW
  simp only [World.size_alloc] at c1 c2
  go_enter Tryz.func40, Tryz.ntmps40
  go_wp2_with first | (go_at_call 86; refine c1.mono ?_; clear c1; rintro e w1 ⟨rfl, rfl⟩) | (go_at_call 85; refine c2.mono ?_; clear c2; rintro e w2 ⟨v, rfl, hv, g2⟩)
  go_ret
  exact ⟨_, rfl, hv, (hW.alc _).then g2⟩
set_option maxRecDepth 100000 in
set_option maxHeartbeats 1000000 in
theorem slots_fam {v : Value} {f : Fam} {W0 : World} (h : FamR W0 v f) :
    Calls Tryz.prog 35 #[v] W0 fun e w' => e = .returned (.int .i64 f.slots) ∧ Grw W0 w' := by
  obtain ⟨s, mp, rfl, hs, hm⟩ := h
  have hW : ∀ s, Grw W0 (W0.alloc (.cells #[s, .map mp] 76)) := fun s => Grw.alloc W0 _
  have c1 := slots_any (hs.grw (hW s))
  rw [Fam.cs_length] at c1
  obtain ⟨A, cap, rfl, -, -, -⟩ := hs.shape
  replace hW := hW (.slice A f.cs.length cap)
  generalize f.cs.length = CL at *
  go_enter Tryz.func35, Tryz.ntmps35
  go_wp2_with (go_at_call 78; refine c1.mono ?_; clear c1; rintro e w1 ⟨rfl, g1⟩)
  go_ret
  exact ⟨rfl, hW.then g1⟩
set_option maxRecDepth 100000 in
set_option maxHeartbeats 1000000 in
theorem count_fam {v : Value} {f : Fam} {k : Int} {W0 : World} (h : FamR W0 v f) (hk : smallI k) :
    Calls Tryz.prog 63 #[v, .int .i64 k] W0 fun e w' => e = .returned (.int .i64 (ofI f.cs k)) ∧ Grw W0 w' := by
  obtain ⟨s, mp, rfl, hs, hm⟩ := h
  have hW : ∀ s, Grw W0 (W0.alloc (.cells #[s, .map mp] 76)) := fun s => Grw.alloc W0 _
  have c1 := of_any (k := k) (hs.grw (hW s)) (by have := hk.2; omega)
  obtain ⟨A, cap, rfl, -, -, -⟩ := hs.shape
  replace hW := hW (.slice A f.cs.length cap)
  generalize f.cs.length = CL at *
  generalize ofI f.cs k = R at *
  go_enter Tryz.func63, Tryz.ntmps63
  go_wp2_with (go_at_call 119; refine c1.mono ?_; clear c1; rintro e w1 ⟨rfl, g1⟩)
  go_ret
  exact ⟨rfl, hW.then g1⟩
/-- is a slot's count nought? -/
def Fam.zero (f : Fam) (i : Nat) : Int := if i < f.slots ∧ f.cnt i = 0 then 1 else 0
set_option maxRecDepth 100000 in
set_option maxHeartbeats 1000000 in
theorem free_fam {v : Value} {f : Fam} {W0 : World} (h : FamR W0 v f) (hf : f.WF) :
    Calls Tryz.prog 73 #[v] W0 (RetOcc f.slots f.zero W0) := by
  obtain ⟨s, mp, rfl, hs, hm⟩ := h
  have hW : ∀ s, Grw W0 (W0.alloc (.cells #[s, .map mp] 76)) := fun s => Grw.alloc W0 _
  have c1 := zero_any (hs.grw (hW s)) (by rw [Fam.cs_length]; exact hf.slots)
  rw [Fam.cs_length] at c1
  obtain ⟨A, cap, rfl, -, -, -⟩ := hs.shape
  replace hW := hW (.slice A f.cs.length cap)
  generalize f.cs.length = CL at *
  have hz : ∀ i, (if f.cs[i]? = some 0 then (1 : Int) else 0) = f.zero i := by
    intro i
    unfold Fam.zero
    by_cases hi : i < f.slots
    · rw [Fam.cs_get hi]
      by_cases h0 : f.cnt i = 0
      · rw [if_pos (by rw [h0]), if_pos ⟨hi, h0⟩]
      · rw [if_neg (by simpa using h0), if_neg (fun h => h0 h.2)]
    · rw [List.getElem?_eq_none (by rw [Fam.cs_length]; omega), if_neg (by simp), if_neg (fun h => hi h.1)]
  rw [show (fun i => if f.cs[i]? = some 0 then (1 : Int) else 0) = f.zero from funext hz] at c1
  go_enter Tryz.func73, Tryz.ntmps73
  go_wp2_with (go_at_call 135; refine c1.mono ?_; clear c1; rintro e w1 ⟨v, out, rfl, h1, g1, h2, h3, h4⟩)
  go_ret
  exact ⟨_, out, rfl, own_low h1 hW.size, hW.then g1, h2, h3, h4⟩
set_option maxRecDepth 100000 in
set_option maxHeartbeats 1000000 in
theorem vacant_any {v : Value} {f : Fam} {nm : List UInt8} {W0 : World} (h : FamR W0 v f) (hf : f.WF) (hnm : nm.length ≤ 1000000) :
    Calls Tryz.prog 94 #[v, strV nm] W0 fun e w' => e = .returned (.int .i64 (f.vacant nm)) ∧ Grw W0 w' := by
  obtain ⟨s, mp, rfl, hs, hm⟩ := h
  obtain ⟨A, cap, rfl, -, -, -⟩ := hs.shape
  generalize f.cs.length = CL
  clear hs
  have gs := Grw.self W0
  have hlen : ∀ B, Grw W0 B → (Builtin.len_ #[74] 3 #[.map mp]).run Tryz.prog B = .ok (.int .i64 (f.vols.length : Int)) B := by
    intro B hB
    rcases hm.grw hB with ⟨rfl, h0⟩ | ⟨b, D, rfl, ho, hd⟩
    · rw [h0]; rfl
    · have := ho.len Tryz.underlying74 3
      rw [hd.1] at this
      exact this
  have hW2 := (Grw.alloc W0 (.cells #[.slice A CL cap, .map mp] 76)).alc (.cells #[.int .i64 0, .int .i64 0, .pointer none] 170)
  have hfew := hf.few
  rcases hm.look hnm with ⟨hg0, hlook⟩ | ⟨u, p, t, hu, ht, htl, hlook⟩
  · have e1 : f.vacant nm = if 32 ≤ f.vols.length then 7 else 0 := by unfold Fam.vacant; rw [hg0]; rfl
    rw [e1]
    clear e1 hg0 hm
    generalize f.vols.length = VL at *
    by_cases h32 : 32 ≤ VL
    · rw [if_pos h32]
      have h32' : (32 : Int) ≤ (VL : Int) := by omega
      go_enter Tryz.func94, Tryz.ntmps94
      go_wp2
      go_ret
      exact ⟨rfl, by go_simp⟩
    · rw [if_neg h32]
      have h32' : ¬ (32 : Int) ≤ (VL : Int) := by omega
      go_enter Tryz.func94, Tryz.ntmps94
      go_wp2
      go_ret
      exact ⟨rfl, by go_simp⟩
  · have e1 : f.vacant nm = 10 := by unfold Fam.vacant; rw [hu]; rfl
    rw [e1]
    clear e1 hm
    go_enter Tryz.func94, Tryz.ntmps94
    go_wp2
    go_ret
    exact ⟨rfl, by go_simp⟩
end Go.Proofs.YtbfdnfkflnajlaaGreat

/-! family: with, Name, New. -/
namespace Go.Proofs.YtbfdnfkflnajlaaGreat
open Go.RowKit Go.Shelf
open Ext hiding One

def Tryz.cloneM_ren : Go.Shelf.Ren := ⟨fun | 5 => 124 | 7 => 175 | n => n, fun | 23 => 74 | 25 => 9 | 3 => 170 | 4 => 4 | 20 => 20 | n => n, fun | n => n⟩
theorem Tryz.cloneM : Go.Proofs.SlLaysW.n5 Tryz.prog Tryz.cloneM_ren := {
  mixed := by kernel_rfl
  f5 := ⟨Tryz.f124.name, by decide, Tryz.func124.trans (congrArg some (by kernel_rfl))⟩
  f7 := Tryz.func175.trans (congrArg some (by kernel_rfl))
  t4 := Tryz.underlying4
  a4 := Tryz.isAgg4
  z4 := Tryz.sizeOf4
  v4 := Tryz.zeroValue4
  t20 := Tryz.underlying20
  a20 := Tryz.isAgg20
  z20 := Tryz.sizeOf20
  v20 := Tryz.zeroValue20
  t23 := Tryz.underlying74
  a23 := Tryz.isAgg74
  z23 := Tryz.sizeOf74
  v23 := Tryz.zeroValue74 }
theorem own_size {w : World} {b n : Nat} {D : DataW Value} (h : w.ownsMap Tryz.prog 9 Rv b n D) : w.ownsMap Tryz.prog 9 Rv b (Maps.size D) D := by
  obtain ⟨es, clock, hb, F, hs, rfl⟩ := h
  refine ⟨es, clock, hb, F, ?_, rfl⟩
  simp [Maps.size, length_sorted]
theorem DatF.put {w : World} {D : DataW Value} {vs : List Vol} {nm : List UInt8} {n r : Int} {l : List Ext} {p : Option Addr} {t : Tr} (h : DatF w D vs) (hT : Maps.Tidy D) (hs : vs.Pairwise ltV) (ht : IsT w p t) (hl : t.toL = l) :
    DatF w (D.put (.string nm) (.held (volV n r p))) (insV vs ⟨nm, n, r, l⟩) := by
  obtain ⟨h1, h2, h3⟩ := h
  refine ⟨?_, fun k => ?_, fun k v hv => ?_⟩
  · rw [Maps.size_put hT, h2 nm, insV_length hs, h1]
  · rw [getV_insV hs]
    by_cases hk : nm = k
    · subst hk
      rw [Maps.has_put_same hT.isMap (keyLitS _), if_pos rfl]; rfl
    · rw [Maps.has_put_other (by simpa using (Ne.symm hk)), if_neg hk, h2]
  · rw [getV_insV hs] at hv
    by_cases hk : nm = k
    · subst hk
      rw [if_pos rfl] at hv
      injection hv with hv
      subst hv
      exact ⟨p, t, fun z => Maps.atKey_put_same hT.isMap (keyLitS _) _ z, ht, hl⟩
    · rw [if_neg hk] at hv
      obtain ⟨p', t', k1, k2, k3⟩ := h3 k v hv
      exact ⟨p', t', fun z => by rw [Maps.atKey_put_other (by simpa using (Ne.symm hk))]; exact k1 z, k2, k3⟩
theorem set_two {w0 w : World} {b : Nat} {cs : Array Value} {t : TypeId} (v0 v1 : Value) (hb : w.heap[b]? = some (.cells cs t (0, 0))) (hg : Grw w0 w) (hn : w0.heap.size ≤ b) (hs : cs.size = 2) :
    (∀ o v, #[v0, v1][o]? = some v → ((w.setCell ⟨b, 0, none⟩ v0).setCell ⟨b, 1, none⟩ v1).cell? ⟨b, o, none⟩ = some v) ∧ Grw w0 ((w.setCell ⟨b, 0, none⟩ v0).setCell ⟨b, 1, none⟩ v1) := by
  have h1 := setCell_blk hb 0 v0
  have h2 := setCell_blk h1 1 v1
  have hcs : (cs.setIfInBounds 0 v0).setIfInBounds 1 v1 = #[v0, v1] := by
    apply Array.ext
    · simp [hs]
    · intro i h1 h2
      simp [hs] at h1
      match i, h1 with
      | 0, _ => simp [Array.getElem_setIfInBounds, hs]
      | 1, _ => simp [Array.getElem_setIfInBounds, hs]
  rw [hcs] at h2
  refine ⟨fun o v hv => by rw [blk_cell h2 o]; exact hv, ?_⟩
  exact show Below _ _ _ from (Below.setCell (show Below _ _ _ from hg) (p := ⟨b, 0, none⟩) hn v0).setCell (p := ⟨b, 1, none⟩) hn v1
/-- a store into a block of another kind. -/
theorem Ints.setB {w : World} {s : Value} {cs : List Int} {b o : Nat} {C : Array Value} {v : Value} {t : TypeId} {fr : Nat × Nat} (hb : w.heap[b]? = some (.cells C t fr)) (hC : ∀ x ∈ C.toList, ∀ c, x ≠ .int .i64 c) (h : Ints w s cs) : Ints (w.setCell ⟨b, o, none⟩ v) s cs :=
  Rows.setOther hb (fun x hx y hy => by
    obtain ⟨c, _, rfl⟩ := List.mem_map.1 hy
    exact hC x hx c) h
theorem MapF.setB {w : World} {mp : Option Nat} {vs : List Vol} {b o : Nat} {C : Array Value} {v : Value} {t : TypeId} (hb : w.heap[b]? = some (.cells C t (0, 0))) (ht : t ≠ 241) (h : MapF w mp vs) : MapF (w.setCell ⟨b, o, none⟩ v) mp vs := by
  rcases h with h | ⟨b', D, rfl, ho, hd⟩
  · exact .inl h
  · refine .inr ⟨b', D, rfl, ho.setCell (fun e => ?_) v, hd.1, hd.2.1, fun nm u hu => ?_⟩
    · obtain ⟨es, clock, hm, _⟩ := ho
      have e' : b' = b := e
      rw [e', hb] at hm
      cases hm
    · obtain ⟨p, T, k1, k2, k3⟩ := hd.2.2 nm u hu
      exact ⟨p, T, k1, IsT.set hb ht o v k2, k3⟩
/-- the family's result variable, written. -/
theorem FamR.ret {w : World} {b : Nat} {c0 c1 : Value} {s : Value} {mp : Option Nat} {f : Fam} (hb : w.heap[b]? = some (.cells #[c0, c1] 76 (0, 0))) (h0 : ∀ c, c0 ≠ .int .i64 c) (h1 : ∀ c, c1 ≠ .int .i64 c) (hs : Ints w s f.cs) (hm : MapF w mp f.vols) :
    FamR ((w.setCell ⟨b, 0, none⟩ s).setCell ⟨b, 1, none⟩ (.map mp)) (famV s mp) f := by
  have k1 := setCell_blk hb 0 s
  have hsi : ∀ c, s ≠ .int .i64 c := fun c => by
    obtain ⟨A, cap, rfl, -⟩ := hs.shape
    simp
  refine ⟨s, mp, rfl, (hs.setB hb ?_).setB k1 ?_, (hm.setB hb (by decide)).setB k1 (by decide)⟩
  · intro x hx c
    simp only [List.mem_cons, List.not_mem_nil, or_false] at hx
    rcases hx with rfl | rfl
    · exact h0 c
    · exact h1 c
  · intro x hx c
    simp at hx
    rcases hx with rfl | rfl
    · exact hsi c
    · exact h1 c
theorem grw_upd {w w1 w2 : World} {b : Nat} (h : Grw w w1) (k : w1.grownBy w2 (some b)) (hb : w.heap.size ≤ b) : Grw w w2 :=
  show Below _ _ _ from Below.grown h k h.size (fun j e => by have : b = j := by injection e
                                                              omega)
theorem grw_new {w w2 : World} {o : Obj} {b : Nat} (k : (w.alloc o).grownBy w2 (some b)) (hb : w.heap.size ≤ b := by simp only [World.size_alloc]; exact Nat.le_refl _) : Grw w w2 := grw_upd (Grw.alloc w o) k hb
theorem blk4 {w B : World} {o1 o2 o3 o4 : Obj} (h : Grw ((((w.alloc o1).alloc o2).alloc o3).alloc o4) B) : B.heap[w.heap.size]? = some o1 ∧ B.heap[w.heap.size + 1]? = some o2 ∧ B.heap[w.heap.size + 1 + 1]? = some o3 ∧ B.heap[w.heap.size + 1 + 1 + 1]? = some o4 := by
  have e4 := alloc_blk (((w.alloc o1).alloc o2).alloc o3) o4
  have e3 := (Grw.alloc _ o4).blk (alloc_blk ((w.alloc o1).alloc o2) o3)
  have e2 := (Grw.alloc _ o4).blk ((Grw.alloc _ o3).blk (alloc_blk (w.alloc o1) o2))
  have e1 := (Grw.alloc _ o4).blk ((Grw.alloc _ o3).blk ((Grw.alloc _ o2).blk (alloc_blk w o1)))
  simp only [World.size_alloc] at e1 e2 e3 e4
  exact ⟨h.blk e1, h.blk e2, h.blk e3, h.blk e4⟩
theorem DatF.empty (w : World) : DatF w (.map []) [] := ⟨rfl, fun nm => rfl, fun nm v hv => by cases hv⟩
theorem MapF.stored {w : World} {b k : Nat} {D : DataW Value} {vs : List Vol} {nm : List UInt8} {n r : Int} {l : List Ext} {p : Option Addr} {t : Tr} (ho : w.ownsMap Tryz.prog 9 Rv b k (D.put (.string nm) (.held (volV n r p)))) (h : DatF w D vs) (hT : Maps.Tidy D) (hs : vs.Pairwise ltV) (ht : IsT w p t) (hl : t.toL = l) :
    MapF w (some b) (insV vs ⟨nm, n, r, l⟩) := by
  have hd := h.put hT hs ht hl (nm := nm) (n := n) (r := r)
  refine .inr ⟨b, _, rfl, ?_, hd⟩
  have := own_size ho
  rw [hd.1] at this
  exact this
/-- a family comes back. -/
def RetF (f : Fam) (w : World) (e : Ending) (w' : World) : Prop := ∃ s mp, e = .returned (famV s mp) ∧ FamR w' (famV s mp) f ∧ Grw w w'
set_option maxRecDepth 100000 in
set_option maxHeartbeats 1000000 in
theorem with_any {v s : Value} {f g : Fam} {nm : List UInt8} {n r : Int} {p : Option Addr} {t : Tr} {l : List Ext} {W0 : World} (h : FamR W0 v f) (hf : f.WF) (hnm : nm.length ≤ 1000000) (hs : Ints W0 s g.cs) (ht : IsT W0 p t) (hl : t.toL = l) (hg : g = f.put ⟨nm, n, r, l⟩) :
    Calls Tryz.prog 95 #[v, cntV s, strV nm, volV n r p] W0 (RetF g W0) := by
  obtain ⟨s0, mp, rfl, hs0, hm⟩ := h
  obtain ⟨A0, cap0, rfl, -, -, -⟩ := hs0.shape
  generalize f.cs.length = CL0
  obtain ⟨A, cap, rfl, -, -, -⟩ := hs.shape
  obtain ⟨CL, hCL⟩ : ∃ CL, g.cs.length = CL := ⟨_, rfl⟩
  rw [hCL] at hs ⊢
  have hgv : g.vols = insV f.vols ⟨nm, n, r, l⟩ := by rw [hg]; rfl
  clear hs0 hCL hg
  have hW := ((((Grw.alloc W0 (.cells #[.slice A0 CL0 cap0, .map mp] 76)).alc (.cells #[.slice A CL cap] 73)).alc (.cells #[.int .i64 n, .int .i64 r, .pointer p] 170)).alc (.cells #[.slice none 0 0, .map none] 76))
  have hfew := hf.few
  have hso := hf.sorted
  have key := keyS hnm
  rcases hm with ⟨rfl, h0⟩ | ⟨b, D, rfl, ho, hd⟩
  · rw [h0] at hgv
    have c1 := fun W => AnyW.maps_Clone_nil Tryz.cloneM W
    change ∀ W, Calls Tryz.prog 124 _ _ _ at c1
    have hq : ∀ w, (binOp BinOp.eql 74 (.map none) (.map none)).run Tryz.prog w = .ok (.bool true) w := fun w => rfl
    have hmm := @run_makeMap Tryz.prog
    have hmade := World.ownsMap_made (H := Value) ((((W0.alloc (.cells #[.slice A0 CL0 cap0, .map none] 76)).alloc (.cells #[.slice A CL cap] 73)).alloc (.cells #[.int .i64 n, .int .i64 r, .pointer p] 170)).alloc (.cells #[.slice none 0 0, .map none] 76)) Tryz.prog 9 Rv
    simp only [World.size_alloc] at hmade
    go_enter Tryz.func95, Tryz.ntmps95
    go_wp2_with first | (go_at_call 124; refine (c1 _).mono ?_; clear c1; rintro e w1 ⟨rfl, rfl⟩) | (at_mapUpdate; refine wpList_mapUpdate_own _ rfl _ _ _ 74 rfl 9 170 lawS Tryz.underlying74 Rv _ _ _ rfl hmade (by unfold maxLen; omega) (strV nm) (volV n r p) (.string nm) rfl rfl key (.held (volV n r p)) [] rfl ?_; intro w2 hown2 hgrow; have g2 := grw_new hgrow; obtain ⟨v4, v5, v7, v8⟩ := blk4 g2; have u5 := (var_facts v5).1; have f80 := blk_free v8 0; have f81 := blk_free v8 1; have r80 := blk_cell v8 0; have r81 := blk_cell v8 1; simp only [List.getElem?_toArray, List.getElem?_cons_succ, List.getElem?_cons_zero] at r80 r81)
    rw [h0] at hso
    obtain ⟨q5, g5⟩ := set_two (w0 := W0) (.slice A CL cap) (.map (some (W0.heap.size + 1 + 1 + 1 + 1))) v8 (hW.then g2) (by omega) rfl
    have q0 := q5 0 _ rfl
    have q1 := q5 1 _ rfl
    have hm2 := MapF.stored hown2 (DatF.empty w2) Maps.tidy_empty hso (ht.grw (hW.then g2)) hl
    rw [← hgv] at hm2
    have hr := FamR.ret v8 (fun c h => by cases h) (fun c h => by cases h) (hs.grw (hW.then g2)) hm2
    refine bodyPost_ret (v := famV (.slice A CL cap) (some (W0.heap.size + 1 + 1 + 1 + 1))) (by simp [results, Tryz.results95, go_sem, q0, q1]) rfl ⟨_, _, rfl, hr, g5⟩
  · have c1 := fun (W : World) (hW : Grw W0 W) (bs : Nat) (hbs : W.heap.size = bs) => (AnyW.maps_Clone_owns Tryz.cloneM 9 Rv b _ D W (ho.kept (hW.by none) (by simp))).mono (R' := fun e w' => e = .returned (.map (some bs)) ∧ w'.ownsMap Tryz.prog 9 Rv bs f.vols.length D ∧ Grw W w') (by rintro e w' ⟨rfl, h1, _, h2⟩; subst hbs; exact ⟨rfl, h1, h2⟩)
    change ∀ W, Grw W0 W → ∀ bs, W.heap.size = bs → Calls Tryz.prog 124 _ _ _ at c1
    replace c1 := c1 _ hW (W0.heap.size + 1 + 1 + 1 + 1) (by simp only [World.size_alloc])
    have hq : ∀ w b, (binOp BinOp.eql 74 (.map (some b)) (.map none)).run Tryz.prog w = .ok (.bool false) w := fun w b => rfl
    have hlen : f.vols.length < maxLen := by unfold maxLen; omega
    replace hlen : Aside (f.vols.length < maxLen) := hlen
    go_enter Tryz.func95, Tryz.ntmps95
    go_wp2_with first | (go_at_call 124; refine c1.mono ?_; clear c1; rintro e w1 ⟨rfl, ho1, hb1⟩; obtain ⟨v4, v5, v7, v8⟩ := blk4 (w := W0) hb1; have r70 := blk_cell v7 0; have r71 := blk_cell v7 1; have r72 := blk_cell v7 2; simp only [List.getElem?_toArray, List.getElem?_cons_succ, List.getElem?_cons_zero] at r70 r71 r72) | (at_mapUpdate; refine wpList_mapUpdate_own _ rfl _ _ _ 74 rfl 9 170 lawS Tryz.underlying74 Rv _ _ _ rfl ho1 hlen.out (strV nm) (volV n r p) (.string nm) rfl rfl key (.held (volV n r p)) [] rfl ?_; intro w2 hown2 hgrow; have g2 := grw_upd hb1 hgrow (by simp only [World.size_alloc]; exact Nat.le_refl _); obtain ⟨v4, v5, v7, v8⟩ := blk4 g2; have u5 := (var_facts v5).1; have f80 := blk_free v8 0; have f81 := blk_free v8 1; have r80 := blk_cell v8 0; have r81 := blk_cell v8 1; simp only [List.getElem?_toArray, List.getElem?_cons_succ, List.getElem?_cons_zero] at r80 r81)
    obtain ⟨q5, g5⟩ := set_two (w0 := W0) (.slice A CL cap) (.map (some (W0.heap.size + 1 + 1 + 1 + 1))) v8 (hW.then g2) (by omega) rfl
    have q0 := q5 0 _ rfl
    have q1 := q5 1 _ rfl
    have hm2 := MapF.stored hown2 (hd.grw (hW.then g2)) (ho.tidy lawS) hso (ht.grw (hW.then g2)) hl
    rw [← hgv] at hm2
    have hr := FamR.ret v8 (fun c h => by cases h) (fun c h => by cases h) (hs.grw (hW.then g2)) hm2
    refine bodyPost_ret (v := famV (.slice A CL cap) (some (W0.heap.size + 1 + 1 + 1 + 1))) (by simp [results, Tryz.results95, go_sem, q0, q1]) rfl ⟨_, _, rfl, hr, g5⟩
end Go.Proofs.YtbfdnfkflnajlaaGreat

/-! family: Name, New. -/
namespace Go.Proofs.YtbfdnfkflnajlaaGreat
open Go.RowKit Go.Shelf
open Ext hiding One

theorem conv_str (w : World) (s : List UInt8) (h : s.length ≤ 1000000) : ∃ cap w', (convert 9 33 (strV s)).run Tryz.prog w = .ok (.slice (some ⟨w.heap.size, 0, none⟩) s.length cap) w' ∧ Bys w' (.slice (some ⟨w.heap.size, 0, none⟩) s.length cap) s ∧ Grw w w' ∧ w'.heap.size = w.heap.size + 1 := by
  have hr := run_bytes_of_string (P := Tryz.prog) w 9 33 5 ⟨s.toArray⟩ Tryz.underlying9 Tryz.underlying33 Tryz.underlying5
  have hsz : (⟨s.toArray⟩ : ByteArray).size = s.length := by simp [ByteArray.size]
  rw [hsz] at hr
  have hg : Grw w.drew (w.drew.alloc (.cells (bytesRow ⟨s.toArray⟩ (grownCap w s.length 0 5)) 5 ((bytesRow ⟨s.toArray⟩ (grownCap w s.length 0 5)).size, (bytesRow ⟨s.toArray⟩ (grownCap w s.length 0 5)).size + 1))) := Grw.alloc _ _
  refine ⟨_, _, hr, ⟨by simp [bytC], .inr ⟨w.heap.size, 0, _, rfl, grownCap_ge _ _ _ _, grownCap_le_maxLen _ _ _ _ (by unfold maxLen; omega), fun j u hu => ?_⟩⟩, (Grw.drw w).then hg, by simp [World.size_alloc]⟩
  have hj : j < s.length := by
    have := (List.getElem?_eq_some_iff.1 hu).1
    simpa [bytC] using this
  have hc := alloc_blk w.drew (.cells (bytesRow ⟨s.toArray⟩ (grownCap w s.length 0 5)) 5 ((bytesRow ⟨s.toArray⟩ (grownCap w s.length 0 5)).size, (bytesRow ⟨s.toArray⟩ (grownCap w s.length 0 5)).size + 1))
  rw [Nat.zero_add, show w.heap.size = w.drew.heap.size from rfl, blk_cell hc, bytesRow_at ⟨s.toArray⟩ _ j (by simpa using hj), ← hu]
  simp [bytC, hj]
def letB (c : UInt8) : Bool := decide (97 ≤ c ∧ c ≤ 122)
def digB (c : UInt8) : Bool := decide (48 ≤ c ∧ c ≤ 57)
/-- is a name's i-th byte allowed? -/
def okAt (i : Nat) (c : UInt8) : Bool := letB c || (decide (0 < i) && digB c)
theorem okAt_iff (k : Nat) (c : UInt8) : okAt k c = true ↔ (97 ≤ c.toNat ∧ c.toNat ≤ 122) ∨ (0 < k ∧ 48 ≤ c.toNat ∧ c.toNat ≤ 57) := by
  unfold okAt letB digB
  simp only [Bool.or_eq_true, Bool.and_eq_true, decide_eq_true_eq, UInt8.le_iff_toNat_le]
  rfl
theorem nameB_iff (s : List UInt8) : nameB s = true ↔ s ≠ [] ∧ s.length ≤ 16 ∧ ∀ i c, s[i]? = some c → okAt i c = true := by
  cases s with
  | nil => simp [nameB]
  | cons c r =>
    unfold nameB
    simp only [Bool.and_eq_true, List.all_eq_true]
    constructor
    · rintro ⟨⟨h1, h2⟩, h3, h4⟩
      refine ⟨by simp, by simpa using h2, fun i x hx => ?_⟩
      cases i with
      | zero => simp at hx; subst hx; simp [okAt, letB]; simpa using h3
      | succ i =>
        have hm : x ∈ r := List.mem_of_getElem? (by simpa using hx)
        have := h4 x hm
        simpa [okAt, letB, digB] using this
    · rintro ⟨-, h2, h⟩
      refine ⟨⟨by simp, by simpa using h2⟩, by have := h 0 c rfl; simpa [okAt, letB] using this, fun x hx => ?_⟩
      obtain ⟨i, hi, rfl⟩ := List.getElem_of_mem hx
      have := h (i + 1) r[i] (by simp [hi])
      simpa [okAt, letB, digB] using this
theorem strL (s : List UInt8) : (⟨s.toArray⟩ : ByteArray).toList = s := by rw [Lib.toList_data]
set_option maxRecDepth 100000 in
set_option maxHeartbeats 1000000 in
theorem name_any {s : List UInt8} {W0 : World} (hs : s.length ≤ 1000000) :
    Calls Tryz.prog 93 #[strV s] W0 fun e w' => e = .returned (.bool (nameB s)) ∧ Grw W0 w' := by
  obtain ⟨cap, w1, hrun, hb, hg, -⟩ := conv_str W0 s hs
  obtain ⟨A, cap2, e, -, -, hx⟩ := hb.shape
  injection e with e1 _ e2
  subst e1; subst e2
  replace hx : Aside (∀ i x, s[i]? = some x → ∃ b off, some (⟨W0.heap.size, 0, none⟩ : Addr) = some ⟨b, off, none⟩ ∧ w1.cell? ⟨b, off + i, none⟩ = some (.int .u8 (x.toNat : Int))) := hx
  have hs1 : (⟨s.toArray⟩ : ByteArray).toList = s := strL s
  have hs2 : (⟨#[]⟩ : ByteArray).toList = [] := strL []
  have hs3 : (⟨s.toArray⟩ : ByteArray).size = s.length := by simp [ByteArray.size]
  clear hb
  obtain ⟨R, hR⟩ : ∃ R, nameB s = R := ⟨_, rfl⟩
  rw [hR]
  replace hR : Aside (nameB s = R) := hR
  go_enter Tryz.func93, Tryz.ntmps93
  go_wp2
  clear hrun
  go_loopg [9] s.length (fun g i wr => ∃ k : Nat, k ≤ s.length ∧ g = s.length - k ∧ i = .int .i64 k ∧ (∀ j c, j < k → s[j]? = some c → okAt j c = true) ∧ Grw w1 wr)
  case atStart => exact ⟨0, Nat.zero_le _, rfl, rfl, fun j c h => by omega, Grw.self _⟩
  case round =>
    obtain ⟨k, hk, rfl, rfl, hok, hgr⟩ := hrel
    replace hok : Aside (∀ j c, j < k → s[j]? = some c → okAt j c = true) := hok
    by_cases hlt : k < s.length
    · obtain ⟨c, hc⟩ : ∃ c, s[k]? = some c := ⟨s[k], List.getElem?_eq_getElem hlt⟩
      obtain ⟨b, off, e, p0⟩ := hx.out k c hc
      injection e with e
      injection e with e1 e2
      subst e1; subst e2
      replace p0 := Grw.cell p0 _ hgr
      rw [Nat.zero_add] at p0
      replace hc : Aside (s[k]? = some c) := hc
      by_cases ho : okAt k c = true
      · have hstep : Aside (∀ j x, j < k + 1 → s[j]? = some x → okAt j x = true) := (by
          intro j x hj hx
          rcases Nat.lt_or_ge j k with h | h
          · exact hok.out j x h hx
          · obtain rfl : j = k := by omega
            rw [hc.out] at hx
            injection hx with hx
            subst hx
            exact ho : ∀ j x, j < k + 1 → s[j]? = some x → okAt j x = true)
        rcases (okAt_iff k c).1 ho with ⟨h1, h2⟩ | ⟨h1, h2, h3⟩
        · have h1' : (97 : Int) ≤ (c.toNat : Int) := by omega
          have h2' : (c.toNat : Int) ≤ 122 := by omega
          clear ho hx
          go_wp2
          go_roundg (s.length - (k + 1))
          case measure => omega
          case rel => exact ⟨k + 1, by omega, rfl, rfl, hstep.out, hgr⟩
        · have h1' : ¬ (97 : Int) ≤ (c.toNat : Int) := by omega
          have h2' : ¬ (c.toNat : Int) < 48 := by omega
          have h3' : ¬ (c.toNat : Int) > 57 := by omega
          have h4' : ¬ (k : Int) = 0 := by omega
          clear ho hx
          go_wp2
          go_roundg (s.length - (k + 1))
          case measure => omega
          case rel => exact ⟨k + 1, by omega, rfl, rfl, hstep.out, hgr⟩
      · have hbad : Aside (nameB s = false) := (by
          refine Bool.eq_false_iff.2 (fun h => ?_)
          exact ho (((nameB_iff s).1 h).2.2 k c hc.out) : nameB s = false)
        obtain ⟨n1, n2⟩ := not_or.1 (fun h => ho ((okAt_iff k c).2 h))
        have hl : (c.toNat : Int) < 97 ∨ 122 < (c.toNat : Int) := by omega
        have hd : (k : Int) = 0 ∨ (c.toNat : Int) < 48 ∨ (c.toNat : Int) > 57 := by omega
        clear n1 n2
        clear ho hx
        rcases hl with h1 | h1
        · have h1' : ¬ (97 : Int) ≤ (c.toNat : Int) := by omega
          clear h1
          rcases hd with h2 | h2 | h2
          · obtain rfl : k = 0 := by omega
            clear h2
            go_wp2
            all_goals
              go_ret
              exact ⟨by rw [← hR.out, hbad.out]; rfl, hg.then hgr⟩
          all_goals
            go_wp2
            all_goals
              go_ret
              exact ⟨by rw [← hR.out, hbad.out]; rfl, hg.then hgr⟩
        · have h1' : (97 : Int) ≤ (c.toNat : Int) := by omega
          have h1'' : ¬ (c.toNat : Int) ≤ 122 := by omega
          clear hd
          have h2 : ¬ (c.toNat : Int) < 48 := by omega
          have h3 : (c.toNat : Int) > 57 := by omega
          go_wp2
          all_goals
            go_ret
            exact ⟨by rw [← hR.out, hbad.out]; rfl, hg.then hgr⟩
    · obtain rfl : k = s.length := by omega
      have hall : Aside (∀ i c, s[i]? = some c → okAt i c = true) := (fun i c h => hok.out i c (List.getElem?_eq_some_iff.1 h).1 h : ∀ i c, s[i]? = some c → okAt i c = true)
      clear hx
      by_cases h0 : s = []
      · subst h0
        go_wp2
        go_ret
        exact ⟨by rw [← hR.out]; rfl, hg.then hgr⟩
      · have h0' : (s == []) = false := by simpa using h0
        by_cases h16 : s.length ≤ 16
        · have h16' : (s.length : Int) ≤ 16 := by omega
          have hgood : Aside (nameB s = true) := ((nameB_iff s).2 ⟨h0, h16, hall.out⟩ : nameB s = true)
          go_wp2
          go_ret
          exact ⟨by rw [← hR.out, hgood.out]; rfl, hg.then hgr⟩
        · have h16' : ¬ (s.length : Int) ≤ 16 := by omega
          have hgood : Aside (nameB s = false) := (Bool.eq_false_iff.2 (fun h => h16 ((nameB_iff s).1 h).2.1) : nameB s = false)
          go_wp2
          go_ret
          exact ⟨by rw [← hR.out, hgood.out]; rfl, hg.then hgr⟩
end Go.Proofs.YtbfdnfkflnajlaaGreat
