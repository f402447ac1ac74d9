/-
  refcount: permitted. refcount: changed. mapper: caught, where nothing was thrown. refcount: Add, Slots, Of. refcount: New, Slots, Of. refcount: is a count below 0? extent.Runs: its parts. slices.DeleteFunc where nothing is deleted.
-/
import Derived.Test.YtbfdnfkflnajlaaGreatJ02
import Derived.Test.YtbfdnfkflnajlaaGreatJ05
import Derived.Test.YtbfdnfkflnajlaaGreatJ07
import Derived.Test.YtbfdnfkflnajlaaGreatJ08
import Derived.Laws.CopyOwn
import Derived.Laws.OwnMore
import Derived.Deep.OwnRows
import Derived.RegionTactic
import Derived.BigRegion
import Derived.ChangeAlike
import Derived.Deep.Cut
set_option linter.unusedVariables false
set_option linter.unusedSimpArgs false
/-! refcount: permitted. -/
namespace Go.Proofs.YtbfdnfkflnajlaaGreat
open Go.RowKit
open Ext hiding One

/-- numbers, read through a slice. -/
def Ints (w : World) (v : Value) (l : List Int) : Prop := Rows w 1 v l.length (l.map (Value.int .i64))
theorem Ints.grw {w w' : World} {v : Value} {l : List Int} (hg : Grw w w') (h : Ints w v l) : Ints w' v l := Rows.grw hg h
theorem Ints.shape {w : World} {v : Value} {l : List Int} (h : Ints w v l) : ∃ A cap, v = .slice A l.length cap ∧ l.length ≤ cap ∧ cap ≤ maxLen ∧
    ∀ i (x : Int), l[i]? = some x → ∃ b off, A = some ⟨b, off, none⟩ ∧ w.cell? ⟨b, off + i, none⟩ = some (.int .i64 x) := by
  obtain ⟨h1, h2⟩ := h
  rcases h2 with ⟨rfl, h0⟩ | ⟨b, off, cap, rfl, hc, hm, hcell⟩
  · refine ⟨none, 0, by rw [h0], by omega, by unfold maxLen; omega, fun i x hx => ?_⟩
    rw [List.getElem?_eq_none (by omega)] at hx
    cases hx
  · exact ⟨_, cap, rfl, hc, hm, fun i x hx => ⟨b, off, rfl, hcell _ _ (by simp [hx])⟩⟩
abbrev cntV (s : Value) : Value := .agg #[s]
/-- an extent's slots exist. -/
def inN (n : Nat) (x : Ext) : Bool := decide (1 ≤ x.len ∧ 0 ≤ x.slot ∧ x.slot ≤ n ∧ x.len ≤ n - x.slot)

set_option maxRecDepth 100000 in
set_option maxHeartbeats 1000000 in
theorem perm1_any {ok : Bool} {x : Ext} {b n cap : Nat} {A : Option Addr} {W0 : World} (hn : (n : Int) ≤ 1000000) (hs : -1000000000000 ≤ x.slot ∧ x.slot ≤ 1000000000000) (hc : ∀ B, Grw W0 B → B.cell? ⟨b, 0, none⟩ = some (.slice A n cap)) :
    Calls Tryz.prog 211 #[.bool ok, extV x, .pointer (some ⟨b, 0, none⟩)] W0 fun e w' => e = .returned (.bool (ok && inN n x)) ∧ Grw W0 w' := by
  obtain ⟨hs1, hs2⟩ := hs
  have hg := Grw.alloc W0 (.cells #[.int .i64 x.at_, .int .i64 x.len, .int .i64 x.slot] 105)
  obtain ⟨r, hr⟩ : ∃ r, (ok && inN n x) = r := ⟨_, rfl⟩
  rw [hr]
  replace hr : Aside ((ok && inN n x) = r) := hr
  have hcc := hc _ hg
  clear hc
  unfold extV
  cases ok
  · have : r = false := by rw [← hr.out]; rfl
    subst this
    go_enter Tryz.func211, Tryz.ntmps211
    go_wp2
    go_ret
    exact ⟨rfl, hg⟩
  · go_enter Tryz.func211, Tryz.ntmps211
    go_wp2
    all_goals
      go_ret
      refine ⟨?_, hg⟩
      rw [← hr.out]
      refine congrArg (fun b => Ending.returned (.bool b)) ?_
      unfold inN
      simp only [Bool.true_and]
    all_goals first | exact decide_eq_decide.2 (by constructor <;> intro <;> omega) | exact (decide_eq_false (by omega)).symm

/-- all extents of a list have slots that exist. -/
def permB (n : Nat) (l : List Ext) : Bool := l.all (inN n)
theorem permB_snoc (n : Nat) (l : List Ext) (x : Ext) : permB n (l ++ [x]) = (permB n l && inN n x) := by simp [permB]
set_option maxRecDepth 100000 in
set_option maxHeartbeats 1000000 in
theorem fold_any {l : List Ext} {v : Value} {b n cap : Nat} {A : Option Addr} {W0 : World} (hl : Exts W0 v l) (hsm : ∀ x ∈ l, -1000000000000 ≤ x.slot ∧ x.slot ≤ 1000000000000) (hn : (n : Int) ≤ 1000000) (hc : ∀ B, Grw W0 B → B.cell? ⟨b, 0, none⟩ = some (.slice A n cap)) :
    Calls Tryz.prog 210 #[v, .bool true, .func (.func 211) #[] #[.pointer (some ⟨b, 0, none⟩)]] W0 fun e w' => e = .returned (.bool (permB n l)) ∧ Grw W0 w' := by
  obtain ⟨A, cap2, rfl, hc2, hm, hx⟩ := hl.shape
  clear hl
  unfold maxLen at hm
  replace hc : Aside (∀ B, Grw W0 B → B.cell? ⟨b, 0, none⟩ = some (.slice _ n cap)) := hc
  go_enter Tryz.func210, Tryz.ntmps210
  go_wp2
  go_loopg [1, 11] l.length (fun g s1 i wr => ∃ k : Nat, k ≤ l.length ∧ g = l.length - k ∧ i = .int .i64 k ∧ s1 = .bool (permB n (l.take k)) ∧ Grw W0 wr)
  case atStart => exact ⟨0, Nat.zero_le _, rfl, rfl, by simp [permB], Grw.self _⟩
  case round =>
    obtain ⟨k, hk, rfl, rfl, rfl, hg⟩ := hrel
    by_cases hlt : k < l.length
    · obtain ⟨x, hlx⟩ : ∃ x, l[k]? = some x := ⟨l[k], List.getElem?_eq_getElem hlt⟩
      obtain ⟨b2, off, rfl, p0, p1, p2⟩ := hx k x hlx
      replace p0 := Grw.cell p0 _ hg
      replace p1 := Grw.cell p1 _ hg
      replace p2 := Grw.cell p2 _ hg
      have c1 := perm1_any (ok := permB n (l.take k)) (x := x) (W0 := wr.alloc (.cells #[.int .i64 x.at_, .int .i64 x.len, .int .i64 x.slot] 105)) hn (hsm x (List.mem_of_getElem? hlx)) (fun B hB => hc.out B ((hg.alc _).then hB))
      rw [← permB_snoc, ← show l[k] = x from (List.getElem?_eq_some_iff.1 hlx).2, ← List.take_succ_eq_append_getElem hlt] at c1
      rw [show l[k] = x from (List.getElem?_eq_some_iff.1 hlx).2] at c1
      clear hx hsm hlx
      obtain ⟨bb, hbb⟩ : ∃ bb, permB n (l.take k) = bb := ⟨_, rfl⟩
      obtain ⟨b3, hb3⟩ : ∃ bb, permB n (l.take (k + 1)) = bb := ⟨_, rfl⟩
      rw [hbb, hb3] at c1
      rw [hbb]
      replace hb3 : Aside (permB n (l.take (k + 1)) = b3) := hb3
      clear hbb
      go_wp2_with (go_at_call 211; refine c1.mono ?_; clear c1; rintro e w2 ⟨rfl, hg2⟩)
      go_roundg (l.length - (k + 1))
      case measure => omega
      case rel => exact ⟨k + 1, by omega, rfl, rfl, by rw [hb3.out], (hg.alc _).then hg2⟩
    · obtain rfl : k = l.length := by omega
      replace hx := True.intro
      rw [List.take_length]
      go_wp2
      go_ret
      exact ⟨rfl, hg⟩
set_option maxRecDepth 100000 in
set_option maxHeartbeats 1000000 in
theorem permitted_any {l : List Ext} {v s : Value} {cs : List Int} {W0 : World} (hl : Exts W0 v l) (hs : Ints W0 s cs) (hsm : ∀ x ∈ l, -1000000000000 ≤ x.slot ∧ x.slot ≤ 1000000000000) (hn : (cs.length : Int) ≤ 1000000) :
    Calls Tryz.prog 171 #[cntV s, v] W0 fun e w' => e = .returned (.bool (permB cs.length l)) ∧ Grw W0 w' := by
  obtain ⟨A, cap, rfl, -, -, -⟩ := hs.shape
  have hg := Grw.alloc W0 (.cells #[.slice A cs.length cap] 73)
  have hb := alloc_blk W0 (.cells #[.slice A cs.length cap] 73)
  have c1 := fold_any (hl.grw hg) hsm hn (fun B hB => (var_facts (hB.blk hb)).1)
  have hmf : ∀ (fn : Fn) (first cap : Array Value) (w : World), (Instr.makeFunc fn first cap).run Tryz.prog w = .ok (.func fn first cap) w := fun _ _ _ _ => rfl
  go_enter Tryz.func171, Tryz.ntmps171
  go_wp2_with (go_at_call 210; refine c1.mono ?_; clear c1; rintro e w1 ⟨rfl, g1⟩)
  go_ret
  exact ⟨rfl, hg.then g1⟩
end Go.Proofs.YtbfdnfkflnajlaaGreat

/-! refcount: changed. -/
namespace Go.Proofs.YtbfdnfkflnajlaaGreat
open Go.RowKit
open Ext hiding One

theorem addr_add (b o j : Nat) : (⟨b, o, none⟩ : Addr).add j = ⟨b, o + j, none⟩ := by
  unfold Addr.add
  split
  · rename_i h; subst h; rfl
  · rfl
/-- numbers that lie from a block on. -/
def IntsO (base : Nat) (w : World) (s : Value) (cs : List Int) : Prop := Ints w s cs ∧ ∀ k, s.ownBlock = some k → base ≤ k
theorem own_at {g o n cap base : Nat} (h : base ≤ g) : ∀ k, (Value.slice (some ⟨g, o, none⟩) n cap).ownBlock = some k → base ≤ k := fun k e => by
  have e2 : g = k := Option.some.inj e
  omega
/-- a row of numbers in a block of its own. -/
def RowI (w : World) (g : Nat) (l : List Int) : Prop := w.heap[g]? = some (.cells (l.map (Value.int .i64)).toArray 3 (0, 0))
theorem RowI.ints {w : World} {g : Nat} {l : List Int} (h : RowI w g l) (hm : l.length ≤ maxLen) : Ints w (.slice (some ⟨g, 0, none⟩) l.length l.length) l := by
  refine ⟨by simp, .inr ⟨g, 0, l.length, rfl, Nat.le_refl _, hm, fun j u hu => ?_⟩⟩
  rw [Nat.zero_add, blk_cell h]
  simpa using hu
theorem RowI.set {w : World} {g : Nat} {l : List Int} (h : RowI w g l) (j : Nat) (v : Int) : RowI (w.setCell ⟨g, j, none⟩ (.int .i64 v)) g (l.set j v) := by
  have := setCell_blk h j (.int .i64 v)
  unfold RowI
  rw [this]
  simp [List.map_set]

/-- between two rounds of 'changed'. -/
structure ChSt (W0 : World) (cs : List Int) (w : World) : Prop where
  g : Grw W0 w
  r : w.heap[W0.heap.size + 1]? = some (.cells #[.slice none 0 0] 73 (0, 0))
  row : RowI w (W0.heap.size + 1 + 1) cs
theorem ChSt.alc {W0 w : World} {cs : List Int} (h : ChSt W0 cs w) (o : Obj) : ChSt W0 cs (w.alloc o) :=
  ⟨h.g.alc o, (Grw.alloc w o).blk h.r, (Grw.alloc w o).blk h.row⟩
theorem ChSt.set {W0 w : World} {cs : List Int} (h : ChSt W0 cs w) (j : Nat) (v : Int) : ChSt W0 (cs.set j v) (w.setCell ⟨W0.heap.size + 1 + 1, j, none⟩ (.int .i64 v)) :=
  ⟨show Below _ _ _ from Below.setCell h.g (p := ⟨W0.heap.size + 1 + 1, j, none⟩) (by dsimp only; omega) _, (Below.heap_setCell _ _ _ _ (by simp)).trans h.r, h.row.set j v⟩

set_option maxRecDepth 100000 in
set_option maxHeartbeats 1000000 in
theorem changed_any {l : List Ext} {v s : Value} {cs : List Int} {d : Int} {W0 : World} (hl : Exts W0 v l) (hs : Ints W0 s cs) (hp : permB cs.length l = true) (hn : cs.length ≤ 1000000) (hln : l.length ≤ 1000000) (hd : d = 1 ∨ d = -1) (hb : ∀ c ∈ cs, -1000000000 ≤ c ∧ c ≤ 1000000000) :
    Calls Tryz.prog 172 #[cntV s, v, .int .i64 d] W0 fun e w' => ∃ s', e = .returned (cntV s') ∧ IntsO W0.heap.size w' s' (chg cs l d) ∧ Grw W0 w' := by
  have hs0 := hs
  obtain ⟨A, cap, rfl, hc1, hc2, hcell⟩ := hs.shape
  obtain ⟨B, cap2, rfl, hc3, hc4, hx⟩ := hl.shape
  have hmk := run_make_row' (P := Tryz.prog) 61 3 (.int .i64 0) 8 Tryz.underlying61 (by kernel_rfl) rfl .i64 .i64 cs.length (by omega) (by omega)
  go_enter Tryz.func172, Tryz.ntmps172
  go_upto_region 2 with fail
  have hW := ((Grw.alloc W0 (.cells #[.slice A cs.length cap] 73)).alc (.cells #[.slice none 0 0] 73)).alc (.cells (madeCells #[.int .i64 0] cs.length) 3)
  have a1 : (((W0.alloc (.cells #[.slice A cs.length cap] 73)).alloc (.cells #[.slice none 0 0] 73)).alloc (.cells (madeCells #[.int .i64 0] cs.length) 3)).heap[W0.heap.size]? = some (.cells #[.slice A cs.length cap] 73 (0, 0)) := (((Grw.self _).alc _).alc _).blk (alloc_blk W0 _)
  have a2 : (((W0.alloc (.cells #[.slice A cs.length cap] 73)).alloc (.cells #[.slice none 0 0] 73)).alloc (.cells (madeCells #[.int .i64 0] cs.length) 3)).heap[W0.heap.size + 1]? = some (.cells #[.slice none 0 0] 73 (0, 0)) := (Grw.alloc _ _).blk (alloc2_blk W0 _ _)
  have a3 : (((W0.alloc (.cells #[.slice A cs.length cap] 73)).alloc (.cells #[.slice none 0 0] 73)).alloc (.cells (madeCells #[.int .i64 0] cs.length) 3)).heap[W0.heap.size + 1 + 1]? = some (.cells (List.replicate cs.length (Value.int .i64 0)).toArray 3 (0, 0)) := by
    have := alloc_blk ((W0.alloc (.cells #[.slice A cs.length cap] 73)).alloc (.cells #[.slice none 0 0] 73)) (.cells (madeCells #[.int .i64 0] cs.length) 3)
    simp only [World.size_alloc] at this
    rw [← toList_madeCells_one]
    simpa using this
  have asz : (((W0.alloc (.cells #[.slice A cs.length cap] 73)).alloc (.cells #[.slice none 0 0] 73)).alloc (.cells (madeCells #[.int .i64 0] cs.length) 3)).heap.size = W0.heap.size + 3 := by simp
  generalize ((W0.alloc (.cells #[.slice A cs.length cap] 73)).alloc (.cells #[.slice none 0 0] 73)).alloc (.cells (madeCells #[.int .i64 0] cs.length) 3) = W at hW a1 a2 a3 asz ⊢
  have hpos : 0 < (cs.map (Value.int .i64)).length → (some (⟨W0.heap.size + 1 + 1, 0, none⟩ : Addr)) = some ⟨W0.heap.size + 1 + 1, 0, none⟩ ∧ ∃ ad, A = some ad ∧ ∀ j u, (cs.map (Value.int .i64))[j]? = some u → W.cell? (ad.add j) = some u := by
    intro h0
    refine ⟨rfl, ?_⟩
    rw [List.length_map] at h0
    obtain ⟨b, off, rfl, -⟩ := hcell 0 cs[0] (List.getElem?_eq_getElem h0)
    refine ⟨_, rfl, fun j u hu => ?_⟩
    rw [List.getElem?_map] at hu
    obtain ⟨c, hc, rfl⟩ := Option.map_eq_some_iff.1 hu
    obtain ⟨b2, off2, e, h2⟩ := hcell j c hc
    injection e with e
    injection e with e1 e2
    subst e1 e2
    have := Grw.cell h2 _ hW
    rwa [addr_add]
  have v0 := (var_facts a1).1
  clear hmk
  replace hx : Aside (∀ i x, l[i]? = some x → ∃ b off, B = some ⟨b, off, none⟩ ∧ W0.cell? ⟨b, off + i * 3, none⟩ = some (.int .i64 x.at_) ∧ W0.cell? ⟨b, off + i * 3 + 1, none⟩ = some (.int .i64 x.len) ∧ W0.cell? ⟨b, off + i * 3 + 2, none⟩ = some (.int .i64 x.slot)) := hx
  clear hcell
  have q1 : (cs.map (Value.int .i64)).length = Nat.min cs.length cs.length := by rw [List.length_map]; exact (Nat.min_self _).symm
  have q2 : 0 + (cs.map (Value.int .i64)).length ≤ (List.replicate cs.length (Value.int .i64 0)).length := by simp
  have q3 : ∀ u ∈ cs.map (Value.int .i64), u.oneCell' = true := by simp [Value.oneCell']
  have q4 : (Tryz.prog.info? 3).map (·.size) = some 1 := by kernel_rfl
  obtain ⟨cv, hcv⟩ : ∃ cv, cv = cs.map (Value.int .i64) := ⟨_, rfl⟩
  rw [← hcv] at hpos q1 q2 q3
  replace hcv : Aside (cv = cs.map (Value.int .i64)) := hcv
  obtain ⟨rv, hrv⟩ : ∃ rv, rv = List.replicate cs.length (Value.int .i64 0) := ⟨_, rfl⟩
  rw [← hrv] at q2 a3
  replace hrv : Aside (rv = List.replicate cs.length (Value.int .i64 0)) := hrv
  replace hpos : Aside (0 < cv.length → ∃ ad, A = some ad ∧ ∀ j u, cv[j]? = some u → W.cell? (ad.add j) = some u) := fun h => (hpos h).2
  replace q3 : Aside (∀ u ∈ cv, u.oneCell' = true) := q3
  replace q2 : Aside (0 + cv.length ≤ rv.length) := q2
  replace q1 : Aside (cv.length = Nat.min cs.length cs.length) := q1
  replace a3 : Aside (W.heap[W0.heap.size + 1 + 1]? = some (.cells rv.toArray 3 (0, 0))) := a3
  go_wp2_with (with_reducible refine wpList_copy_splice rfl _ _ 61 61 rfl 3 Tryz.underlying61 q4 _ A cs.length cs.length cs.length cap rfl rfl (W0.heap.size + 1 + 1) 0 rv 3 a3.out cv q1.out (fun h => ⟨rfl, hpos.out h⟩) q2.out q3.out (W0.heap.size + 1 + 1) W (Below.refl _ _) (Nat.le_refl _) ?_; intro w2 HG2 hB2)
  have hS : ChSt W0 cs w2 := ⟨Below.trans hW (hB2.mono (by omega)), (hB2.block _ (by omega)).trans a2, by have := HG2.out; unfold RowI; rw [this, hcv.out, hrv.out]; simp [splice]⟩
  clear HG2 hB2 a3 q1 q2 q3 hpos hrv hcv v0 a1 a2 asz
  have hbd : Aside (∀ c ∈ cs, -1000000000 ≤ c ∧ c ≤ 1000000000) := hb
  clear hb
  have hpm : Aside (permB cs.length l = true) := hp
  clear hp q4 hs hs0 hl
  unfold maxLen at hc2 hc4
  go_loopg [21] l.length (fun g i wr => ∃ k : Nat, k ≤ l.length ∧ g = l.length - k ∧ i = .int .i64 k ∧ ChSt W0 (addAt cs fun i => d * occL (l.take k) i) wr)
  case atStart =>
    refine ⟨0, Nat.zero_le _, rfl, rfl, ?_⟩
    rw [show addAt cs (fun i => d * occL (l.take 0) i) = cs from (addAt_zero cs (fun i => by simp [occL]))]
    exact hS
  case round =>
    obtain ⟨k, hk, rfl, rfl, hT⟩ := hrel
    clear hS
    by_cases hlt : k < l.length
    · obtain ⟨x, hlx⟩ : ∃ x, l[k]? = some x := ⟨l[k], List.getElem?_eq_getElem hlt⟩
      obtain ⟨b2, off, rfl, p0, p1, p2⟩ := hx.out k x hlx
      replace p0 := Grw.cell p0 _ hT.g
      replace p1 := Grw.cell p1 _ hT.g
      replace p2 := Grw.cell p2 _ hT.g
      have hin : inN cs.length x = true := by
        have := hpm.out
        unfold permB at this
        rw [List.all_eq_true] at this
        exact this x (List.mem_of_getElem? hlx)
      unfold inN at hin
      rw [decide_eq_true_eq] at hin
      obtain ⟨i1, i2, i3, i4⟩ := hin
      have hocc : ∀ i, occL (l.take (k + 1)) i = occL (l.take k) i + occ1 x.slot (x.slot + x.len) i := by
        intro i
        rw [List.take_succ_eq_append_getElem hlt, occL_append, show l[k] = x from (List.getElem?_eq_some_iff.1 hlx).2]
        simp [occL]
      replace hocc : Aside (∀ i, occL (l.take (k + 1)) i = occL (l.take k) i + occ1 x.slot (x.slot + x.len) i) := hocc
      clear hlx
      go_wp2
      have hT2 := hT.alc (.cells #[.int .i64 x.at_, .int .i64 x.len, .int .i64 x.slot] 105)
      have hbx := alloc_blk wr (.cells #[.int .i64 x.at_, .int .i64 x.len, .int .i64 x.slot] 105)
      have hbs : W0.heap.size + 1 + 1 < wr.heap.size := (Array.getElem?_eq_some_iff.1 hT.row).1
      obtain ⟨bx, hbxe⟩ : ∃ bx, wr.heap.size = bx := ⟨_, rfl⟩
      rw [hbxe] at hbx hbs ⊢
      replace hbxe : Aside (wr.heap.size = bx) := hbxe
      obtain ⟨j0, hj0⟩ : ∃ j0 : Nat, x.slot = j0 := ⟨x.slot.toNat, by omega⟩
      go_loopg [10] x.len.toNat (fun g s10 wx => ∃ j : Nat, s10 = .int .i64 (j : Int) ∧ x.slot ≤ j ∧ (j : Int) ≤ x.slot + x.len ∧ g = (x.slot + x.len - j).toNat ∧ wx.heap[bx]? = some (.cells #[.int .i64 x.at_, .int .i64 x.len, .int .i64 x.slot] 105 (0, 0)) ∧ ChSt W0 (addAt cs fun i => d * (occL (l.take k) i + occ1 x.slot j i)) wx)
      case atStart =>
        refine ⟨j0, by rw [hj0], by omega, by omega, by omega, hbx, ?_⟩
        rw [addAt_congr (g := fun i => d * occL (l.take k) i) (fun i _ => by rw [← hj0, occ1_none]; simp)]
        exact hT2
      case round =>
        clear hT2 hbx hT p0 p1 p2 hbxe
        obtain ⟨j, rfl, hj1, hj2, rfl, hbx, hT⟩ := hrel
        obtain ⟨x0, x1, x2⟩ := ext_cells hbx
        replace x1 := x1 wr (Grw.self _)
        replace x2 := x2 wr (Grw.self _)
        clear x0
        by_cases hjl : (j : Int) < x.slot + x.len
        · have hjn : j < cs.length := by omega
          obtain ⟨c, hcj⟩ : ∃ c, cs[j]? = some c := ⟨cs[j], List.getElem?_eq_getElem hjn⟩
          have hcb := hbd.out c (List.mem_of_getElem? hcj)
          have ho1 := occL_bound (l.take k) j
          have ho2 := occ1_bound x.slot j j
          have hol : (l.take k).length ≤ 1000000 := by rw [List.length_take]; omega
          obtain ⟨y, hy⟩ : ∃ y, c + d * (occL (l.take k) j + occ1 x.slot j j) = y := ⟨_, rfl⟩
          have hyb : -2000000000 ≤ y ∧ y ≤ 2000000000 := by rcases hd with rfl | rfl <;> omega
          obtain ⟨hy1, hy2⟩ := hyb
          have hrow : wr.cell? ⟨W0.heap.size + 1 + 1, j, none⟩ = some (.int .i64 y) := by
            rw [blk_cell hT.row, List.getElem?_toArray, List.getElem?_map, addAt_get, hcj, ← hy]
            rfl
          have hfz : wr.frozen? ⟨W0.heap.size + 1 + 1, j, none⟩ = false := blk_free hT.row j
          replace hy : Aside (c + d * (occL (l.take k) j + occ1 x.slot j j) = y) := hy
          have hd1 : -1 ≤ d ∧ d ≤ 1 := by omega
          obtain ⟨hd2, hd3⟩ := hd1
          have hset : ChSt W0 (addAt cs fun i => d * (occL (l.take k) i + occ1 x.slot ((j + 1 : Nat) : Int) i)) (wr.setCell ⟨W0.heap.size + 1 + 1, j, none⟩ (.int .i64 (y + d))) := by
            have := hT.set j (y + d)
            rwa [addAt_set (g := fun i => d * (occL (l.take k) i + occ1 x.slot ((j + 1 : Nat) : Int) i)) hcj (by
              have e1 : occ1 x.slot (j : Int) j = 0 := by unfold occ1; rw [if_neg (by omega)]
              have e2 : occ1 x.slot ((j + 1 : Nat) : Int) j = 1 := by unfold occ1; rw [if_pos (by omega)]
              rw [← hy.out, e1, e2, Int.mul_add, Int.mul_add]; omega) (fun i hi _ => by
              have : occ1 x.slot (j : Int) i = occ1 x.slot ((j + 1 : Nat) : Int) i := by
                unfold occ1
                by_cases h1 : x.slot ≤ i ∧ (i : Int) < j
                · rw [if_pos h1, if_pos (by omega)]
                · rw [if_neg h1, if_neg (by omega)]
              rw [this])] at this
          clear hx hcj ho1 ho2
          go_wp2
          go_roundg (x.slot + x.len - ((j + 1 : Nat) : Int)).toNat
          case measure => omega
          case rel => exact ⟨j + 1, by simp, by omega, by omega, rfl, (Below.heap_setCell _ _ _ _ (by dsimp only; omega)).trans hbx, hset⟩
        · replace hT : ChSt W0 (addAt cs fun i => d * occL (l.take (k + 1)) i) wr := by
            rw [addAt_congr (g := fun i => d * (occL (l.take k) i + occ1 x.slot (j : Int) i)) (fun i _ => by rw [hocc.out i, show x.slot + x.len = (j : Int) by omega])]
            exact hT
          clear hx
          go_wp2
          go_roundg (l.length - (k + 1))
          case measure => omega
          case rel => exact ⟨k + 1, by omega, rfl, rfl, hT⟩
    · obtain rfl : k = l.length := by omega
      replace hx := True.intro
      rw [List.take_length] at hT
      replace hT : ChSt W0 (chg cs l d) wr := hT
      obtain ⟨v0, f0⟩ := var_facts hT.r
      go_wp2
      obtain ⟨k1, k2⟩ := set_one (w0 := W0) hT.r (by omega) hT.g (.slice (some ⟨W0.heap.size + 1 + 1, 0, none⟩) cs.length cs.length)
      have q0 := blk_cell k1 0
      simp only [List.getElem?_toArray, List.getElem?_cons_zero] at q0
      have hrow : RowI (wr.setCell ⟨W0.heap.size + 1, 0, none⟩ (.slice (some ⟨W0.heap.size + 1 + 1, 0, none⟩) cs.length cs.length)) (W0.heap.size + 1 + 1) (chg cs l d) := (Below.heap_setCell _ _ _ _ (by dsimp only; omega)).trans hT.row
      have hints := hrow.ints (by unfold chg; rw [addAt_length]; unfold maxLen; omega)
      rw [show (chg cs l d).length = cs.length from addAt_length _ _] at hints
      refine bodyPost_ret (v := cntV (.slice (some ⟨W0.heap.size + 1 + 1, 0, none⟩) cs.length cs.length)) (by simp [results, Tryz.results172, go_sem, q0]) rfl ⟨_, rfl, ⟨hints, own_at (by omega)⟩, k2⟩
end Go.Proofs.YtbfdnfkflnajlaaGreat

/-! mapper: caught, where nothing was thrown. -/
namespace Go.Proofs.YtbfdnfkflnajlaaGreat
open Go.RowKit
open Ext hiding One

set_option maxRecDepth 100000 in
set_option maxHeartbeats 1000000 in
theorem caught_nil {k : Int} {W0 : World} : Calls Tryz.prog 50 #[Value.nilIface, .int .i64 k] W0 fun e w' => e = .returned (.int .i64 k) ∧ Grw W0 w' := by
  go_enter Tryz.func50, Tryz.ntmps50
  go_wp2
  go_ret
  exact ⟨rfl, Grw.self _⟩
/-- the deferred closure of Apply, where nothing was thrown. -/
def RetDef (b : Nat) (k : Int) (w : World) (e : Ending) (u : FrameMode) (w' : World) : Prop := u = .returning ∧ e = .returned (.tuple #[]) ∧ ∃ w1, Grw w w1 ∧ w' = w1.setCell ⟨b, 0, none⟩ (.int .i64 k)
set_option maxRecDepth 100000 in
set_option maxHeartbeats 1000000 in
theorem apply1_ret {b : Nat} {k : Int} {W0 : World} (hb : W0.heap[b]? = some (.cells #[.int .i64 k] 25 (0, 0))) :
    CallsD Tryz.prog 49 #[.pointer (some ⟨b, 0, none⟩)] .returning W0 (RetDef b k W0) := by
  refine callsD_of_wpS Tryz.func49 rfl fun c₀ cs hu => ?_
  have d0 := blk_cell hb 0
  simp only [List.getElem?_toArray, List.getElem?_cons_zero] at d0
  refine wpS_region_O (.two 0 1 (.e 1 (.e 2 (.e 3 .nil))) (.e 0 (.e 2 (.e 3 .nil)))) (by kernel_rfl) (by kernel_rfl) ?_
  intro o ho
  simp only [ordsOf, List.map_cons, List.map_nil, List.cons_append, List.nil_append, List.mem_cons, List.not_mem_nil, or_false] at ho
  rcases ho with rfl | rfl
  · simp [wpOpsS, go_sem, recoverD, hu, Tryz.ntmps49, Exit.thenS, d0]
    refine caught_nil.mono ?_
    rintro e w1 ⟨rfl, g1⟩
    have g2 := (Grw.drw W0).then g1
    have b1 := g2.blk hb
    have f0 := blk_free b1 0
    have d1 := blk_cell b1 0
    simp only [List.getElem?_toArray, List.getElem?_cons_zero] at d1
    simp [go_sem, d1, f0, bodyPostS, results, Tryz.results49]
    exact ⟨.returning, by rw [← hu], rfl, rfl, w1, g2, rfl⟩
  · simp [wpOpsS, go_sem, recoverD, hu, Tryz.ntmps49, Exit.thenS, d0]
    refine caught_nil.mono ?_
    rintro e w1 ⟨rfl, g1⟩
    have g2 := (Grw.drw W0).then g1
    have b1 := g2.blk hb
    have f0 := blk_free b1 0
    have d1 := blk_cell b1 0
    simp only [List.getElem?_toArray, List.getElem?_cons_zero] at d1
    simp [go_sem, d1, f0, bodyPostS, results, Tryz.results49]
    exact ⟨.returning, by rw [← hu], rfl, rfl, w1, g2, rfl⟩
end Go.Proofs.YtbfdnfkflnajlaaGreat

/-! refcount: Add, Slots, Of. -/
namespace Go.Proofs.YtbfdnfkflnajlaaGreat
open Go.RowKit
open Ext hiding One

theorem Ints.nil (w : World) : Ints w (.slice none 0 0) [] := Rows.nil w 1
/-- counts and an error. -/
def RetC (cs : List Int) (n : Int) (w : World) (e : Ending) (w' : World) : Prop := ∃ s, e = .returned (.tuple #[cntV s, .int .i64 n]) ∧ IntsO w.heap.size w' s cs ∧ Grw w w'
theorem Ints.setLow {w : World} {s : Value} {cs : List Int} {b : Nat} {v : Value} {u : Value} {t : TypeId} (hb : w.heap[b]? = some (.cells #[u] t (0, 0))) (h : Ints w s cs) (ht : ∀ c, u ≠ .int .i64 c) (o : Nat) : Ints (w.setCell ⟨b, 0, none⟩ v) s cs := by
  refine ⟨h.1, h.2.imp id ?_⟩
  rintro ⟨g, off, cap, hv, h1, h2, h3⟩
  refine ⟨g, off, cap, hv, h1, h2, fun j y hy => ?_⟩
  have h4 := h3 j y hy
  by_cases hg : g = b
  · subst hg
    rw [blk_cell hb] at h4
    rw [List.getElem?_map] at hy
    obtain ⟨c, _, rfl⟩ := Option.map_eq_some_iff.1 hy
    rcases Nat.eq_zero_or_pos (off + j) with h0 | h0
    · rw [h0] at h4
      simp at h4
      exact absurd h4 (ht c)
    · rw [List.getElem?_toArray, List.getElem?_eq_none (by simp; omega)] at h4
      cases h4
  · have hbl : (w.setCell ⟨b, 0, none⟩ v).heap[g]? = w.heap[g]? := Below.heap_setCell _ _ _ _ hg
    unfold World.cell? at h4 ⊢
    rw [hbl]
    exact h4

set_option maxRecDepth 100000 in
set_option maxHeartbeats 1000000 in
theorem add_any {l : List Ext} {v s : Value} {cs : List Int} {W0 : World} (hl : Exts W0 v l) (hs : Ints W0 s cs) (hsm : ∀ x ∈ l, -1000000000000 ≤ x.slot ∧ x.slot ≤ 1000000000000) (hn : cs.length ≤ 1000000) (hln : l.length ≤ 1000000) (hb : ∀ c ∈ cs, -1000000000 ≤ c ∧ c ≤ 1000000000) :
    Calls Tryz.prog 137 #[cntV s, v] W0 (if permB cs.length l = true then RetC (chg cs l 1) 0 W0 else RetC [] 2 W0) := by
  obtain ⟨A, cap, rfl, -, -, -⟩ := hs.shape
  have hg0 := (Grw.alloc W0 (.cells #[.slice A cs.length cap] 73)).alc (.cells #[.slice none 0 0] 73)
  have a1 : ((W0.alloc (.cells #[.slice A cs.length cap] 73)).alloc (.cells #[.slice none 0 0] 73)).heap[W0.heap.size]? = some (.cells #[.slice A cs.length cap] 73 (0, 0)) := (Grw.alloc _ _).blk (alloc_blk W0 _)
  have a2 := alloc2_blk W0 (.cells #[.slice A cs.length cap] 73) (.cells #[.slice none 0 0] 73)
  have c1 := permitted_any (hl.grw hg0) (hs.grw hg0) hsm (by omega)
  by_cases hp : permB cs.length l = true
  · rw [if_pos hp]
    rw [hp] at c1
    have c2 := fun (W : World) (hg : Grw W0 W) => changed_any (W0 := W) (hl.grw hg) (hs.grw hg) hp hn hln (d := 1) (.inl rfl) hb
    replace hp : Aside (permB cs.length l = true) := hp
    clear hb hsm
    go_enter Tryz.func137, Tryz.ntmps137
    go_wp2_with (first
      | (go_at_call 171; refine c1.mono ?_; clear c1; rintro e w1 ⟨rfl, g1⟩; have g2 := hg0.then g1; have b1 := g1.blk a1; have b2 := g1.blk a2; have v1 := (var_facts b1).1)
      | (go_at_call 172; refine (c2 _ g2).mono ?_; clear c2; rintro e w2 ⟨s', rfl, ⟨hi, hio⟩, g3⟩; have hi0 := hi; obtain ⟨A9, cap9, rfl, -, -, -⟩ := hi.shape; have b3 := g3.blk b2; obtain ⟨v3, f3⟩ := var_facts b3))
    obtain ⟨k1, k2⟩ := set_one (w0 := W0) b3 (by omega) (g2.then g3) (.slice A9 (chg cs l 1).length cap9)
    have q0 := blk_cell k1 0
    simp only [List.getElem?_toArray, List.getElem?_cons_zero] at q0
    have hi2 := hi0.setLow (v := .slice A9 (chg cs l 1).length cap9) b3 (fun c h => by cases h) 0
    refine bodyPost_ret (v := .tuple #[cntV (.slice A9 (chg cs l 1).length cap9), .int .i64 0]) (by simp [results, Tryz.results137, go_sem, q0]) rfl ⟨_, rfl, ⟨hi2, fun k e => Nat.le_trans g2.size (hio k e)⟩, k2⟩
  · rw [if_neg hp]
    replace hp : permB cs.length l = false := by simpa using hp
    rw [hp] at c1
    replace hp : Aside (permB cs.length l = false) := hp
    clear hb hsm
    go_enter Tryz.func137, Tryz.ntmps137
    go_wp2_with (go_at_call 171; refine c1.mono ?_; clear c1; rintro e w1 ⟨rfl, g1⟩; have g2 := hg0.then g1; have b2 := g1.blk a2; obtain ⟨v3, f3⟩ := var_facts b2)
    obtain ⟨k1, k2⟩ := set_one (w0 := W0) b2 (by omega) g2 (.slice none 0 0)
    have q0 := blk_cell k1 0
    simp only [List.getElem?_toArray, List.getElem?_cons_zero] at q0
    refine bodyPost_ret (v := .tuple #[cntV (.slice none 0 0), .int .i64 2]) (by simp [results, Tryz.results137, go_sem, q0]) rfl ⟨_, rfl, ⟨Ints.nil _, fun k e => by cases e⟩, k2⟩
end Go.Proofs.YtbfdnfkflnajlaaGreat

/-! refcount: New, Slots, Of. -/
namespace Go.Proofs.YtbfdnfkflnajlaaGreat
open Go.RowKit
open Ext hiding One

set_option maxRecDepth 100000 in
set_option maxHeartbeats 1000000 in
theorem slots_any {s : Value} {cs : List Int} {W0 : World} (hs : Ints W0 s cs) :
    Calls Tryz.prog 78 #[cntV s] W0 fun e w' => e = .returned (.int .i64 cs.length) ∧ Grw W0 w' := by
  obtain ⟨A, cap, rfl, -, -, -⟩ := hs.shape
  go_enter Tryz.func78, Tryz.ntmps78
  go_wp2
  go_ret
  exact ⟨rfl, Grw.alloc _ _⟩
/-- the count of a slot. -/
def ofI (cs : List Int) (k : Int) : Int := if k < 0 then 0 else cs[k.toNat]?.getD 0
set_option maxRecDepth 100000 in
set_option maxHeartbeats 1000000 in
theorem of_any {s : Value} {cs : List Int} {k : Int} {W0 : World} (hs : Ints W0 s cs) (hk : k ≤ 9223372036854775807) :
    Calls Tryz.prog 119 #[cntV s, .int .i64 k] W0 fun e w' => e = .returned (.int .i64 (ofI cs k)) ∧ Grw W0 w' := by
  obtain ⟨A, cap, rfl, hc, hm, hx⟩ := hs.shape
  have hg := Grw.alloc W0 (.cells #[.slice A cs.length cap] 73)
  by_cases h0 : k < 0
  · have e : ofI cs k = 0 := by unfold ofI; rw [if_pos h0]
    rw [e]
    clear hx e
    go_enter Tryz.func119, Tryz.ntmps119
    go_wp2
    go_ret
    exact ⟨rfl, hg⟩
  · obtain ⟨j, rfl⟩ : ∃ j : Nat, k = j := ⟨k.toNat, by omega⟩
    by_cases h1 : j < cs.length
    · obtain ⟨c, hcj⟩ : ∃ c, cs[j]? = some c := ⟨cs[j], List.getElem?_eq_getElem h1⟩
      have e : ofI cs j = c := by unfold ofI; rw [if_neg h0]; simp [hcj]
      rw [e]
      obtain ⟨b, off, rfl, p0⟩ := hx j c hcj
      replace p0 := Grw.cell p0 _ hg
      have h2 : ¬ (cs.length : Int) ≤ (j : Int) := by omega
      clear hx e hcj
      go_enter Tryz.func119, Tryz.ntmps119
      go_wp2
      go_ret
      exact ⟨rfl, hg⟩
    · have e : ofI cs j = 0 := by unfold ofI; rw [if_neg h0]; simp [List.getElem?_eq_none (Nat.le_of_not_lt h1)]
      rw [e]
      have h2 : (cs.length : Int) ≤ (j : Int) := by omega
      clear hx e
      go_enter Tryz.func119, Tryz.ntmps119
      go_wp2
      go_ret
      exact ⟨rfl, hg⟩
set_option maxRecDepth 100000 in
set_option maxHeartbeats 1000000 in
theorem cnew_bad {n : Int} {W0 : World} (h : n < 0 ∨ 65536 < n) :
    Calls Tryz.prog 79 #[.int .i64 n] W0 (RetC [] 1 W0) := by
  by_cases h0 : n < 0
  all_goals
    go_enter Tryz.func79, Tryz.ntmps79
    go_wp2
    refine bodyPost_ret (v := .tuple #[cntV (.slice none 0 0), .int .i64 1]) (by simp [results, Tryz.results79, go_sem]) rfl ⟨_, rfl, ⟨Ints.nil _, fun k e => by cases e⟩, Grw.alloc _ _⟩
set_option maxRecDepth 100000 in
set_option maxHeartbeats 1000000 in
theorem cnew_any {n : Nat} {W0 : World} (h : n ≤ 65536) :
    Calls Tryz.prog 79 #[.int .i64 n] W0 (RetC (List.replicate n 0) 0 W0) := by
  have hmk := run_make_row' (P := Tryz.prog) 61 3 (.int .i64 0) 8 Tryz.underlying61 (by kernel_rfl) rfl .i64 .i64 n (by omega) (by omega)
  have h1 : ¬ (n : Int) < 0 := by omega
  have h2 : ¬ (65536 : Int) < (n : Int) := by omega
  go_enter Tryz.func79, Tryz.ntmps79
  go_wp2
  have hb := alloc2_blk W0 (.cells #[.slice (some ⟨W0.heap.size + 1, 0, none⟩) n n] 73) (.cells (madeCells #[.int .i64 0] n) 3)
  have hrow : RowI ((W0.alloc (.cells #[.slice (some ⟨W0.heap.size + 1, 0, none⟩) n n] 73)).alloc (.cells (madeCells #[.int .i64 0] n) 3)) (W0.heap.size + 1) (List.replicate n 0) := by
    unfold RowI
    rw [hb, List.map_replicate, ← toList_madeCells_one]
  have hi := hrow.ints (by rw [List.length_replicate]; unfold maxLen; omega)
  rw [List.length_replicate] at hi
  refine bodyPost_ret (v := .tuple #[cntV (.slice (some ⟨W0.heap.size + 1, 0, none⟩) n n), .int .i64 0]) (by simp [results, Tryz.results79, go_sem]) rfl ⟨_, rfl, ⟨hi, own_at (by omega)⟩, (Grw.alloc _ _).alc _⟩
end Go.Proofs.YtbfdnfkflnajlaaGreat

/-! refcount: is a count below 0? -/
namespace Go.Proofs.YtbfdnfkflnajlaaGreat
open Go.RowKit
open Ext hiding One

set_option maxHeartbeats 1000000 in
theorem drop1_any (c : Int) (W0 : World) :
    Calls Tryz.prog 174 #[.int .i64 c] W0 fun e w' => e = .returned (.bool (decide (c < 0))) ∧ W0 = w' := by
  go_enter Tryz.func174, Tryz.ntmps174
  go_wp2
  go_ret
  exact ⟨rfl, rfl⟩
/-- some number is below 0. -/
def negB (cs : List Int) : Bool := cs.any fun c => decide (c < 0)
set_option maxRecDepth 100000 in
set_option maxHeartbeats 1000000 in
theorem index_any {s : Value} {cs : List Int} {W0 : World} (hs : Ints W0 s cs) :
    Calls Tryz.prog 212 #[s, .func (.func 174) #[] #[]] W0 fun e w' => ∃ r : Int, e = .returned (.int .i64 r) ∧ (0 ≤ r ↔ negB cs = true) ∧ W0 = w' := by
  obtain ⟨A, cap, rfl, hc, hm, hx⟩ := hs.shape
  clear hs
  unfold maxLen at hm
  replace hx : Aside (∀ i (x : Int), cs[i]? = some x → ∃ b off, A = some ⟨b, off, none⟩ ∧ W0.cell? ⟨b, off + i, none⟩ = some (.int .i64 x)) := hx
  go_enter Tryz.func212, Tryz.ntmps212
  go_wp2
  go_loopg [8] cs.length (fun g i wr => ∃ k : Nat, k ≤ cs.length ∧ g = cs.length - k ∧ i = .int .i64 k ∧ Aside (negB (cs.take k) = false) ∧ W0 = wr)
  case atStart => exact ⟨0, Nat.zero_le _, rfl, rfl, rfl, rfl⟩
  case round =>
    obtain ⟨k, hk, rfl, rfl, hneg, rfl⟩ := hrel
    by_cases hlt : k < cs.length
    · obtain ⟨c, hcj⟩ : ∃ c, cs[k]? = some c := ⟨cs[k], List.getElem?_eq_getElem hlt⟩
      obtain ⟨b, off, rfl, p0⟩ := hx.out k c hcj
      have hst : Aside (negB (cs.take (k + 1)) = decide (c < 0)) := by
        have := hneg.out
        unfold negB at this ⊢
        rw [List.take_succ_eq_append_getElem hlt, List.any_append, this, show cs[k] = c from (List.getElem?_eq_some_iff.1 hcj).2]
        show (false || List.any [c] _) = _
        simp
      have hall : Aside (c < 0 → negB cs = true) := fun h => by
        unfold negB
        rw [List.any_eq_true]
        exact ⟨c, List.mem_of_getElem? hcj, by simpa using h⟩
      clear hcj
      have c1 := drop1_any c W0
      by_cases h0 : c < 0
      · rw [decide_eq_true h0] at c1
        go_wp2_with (go_at_call 174; refine c1.mono ?_; clear c1; rintro e w1 ⟨rfl, rfl⟩)
        go_ret
        exact ⟨k, rfl, ⟨fun _ => hall.out h0, fun _ => by omega⟩, rfl⟩
      · rw [decide_eq_false h0] at c1
        replace hst : Aside (negB (cs.take (k + 1)) = false) := by rw [hst.out, decide_eq_false h0]; rfl
        go_wp2_with (go_at_call 174; refine c1.mono ?_; clear c1; rintro e w1 ⟨rfl, rfl⟩)
        go_roundg (cs.length - (k + 1))
        case measure => omega
        case rel => exact ⟨k + 1, by omega, rfl, rfl, hst, rfl⟩
    · obtain rfl : k = cs.length := by omega
      rw [List.take_length] at hneg
      clear hx
      go_wp2
      go_ret
      exact ⟨-1, rfl, by rw [hneg.out]; simp, rfl⟩
set_option maxRecDepth 100000 in
set_option maxHeartbeats 1000000 in
theorem contains_any {s : Value} {cs : List Int} {W0 : World} (hs : Ints W0 s cs) :
    Calls Tryz.prog 173 #[s, .func (.func 174) #[] #[]] W0 fun e w' => e = .returned (.bool (negB cs)) ∧ W0 = w' := by
  go_enter Tryz.func173, Tryz.ntmps173
  go_wp2_with (go_at_call 212; refine (index_any hs).mono ?_; rintro e w1 ⟨r, rfl, hr, rfl⟩; replace hr : Aside (0 ≤ r ↔ negB cs = true) := hr)
  go_ret
  refine ⟨?_, rfl⟩
  refine congrArg (fun b => Ending.returned (.bool b)) ?_
  have := hr.out
  rw [Bool.eq_iff_iff, decide_eq_true_eq]
  exact this
end Go.Proofs.YtbfdnfkflnajlaaGreat

/-! extent.Runs: its parts. -/
namespace Go.Proofs.YtbfdnfkflnajlaaGreat
open Go.RowKit
open Ext hiding One

set_option maxHeartbeats 1000000 in
theorem runs1_any (x : Ext) (W0 : World) :
    Calls Tryz.prog 200 #[extV x] W0 fun e w' => e = .returned (.bool (!decide x.One)) ∧ Grw W0 w' := by
  have hg := Grw.alloc W0 (.cells #[.int .i64 x.at_, .int .i64 x.len, .int .i64 x.slot] 105)
  have c1 := fun W => proper_any x W
  unfold extV
  go_enter Tryz.func200, Tryz.ntmps200
  go_wp2_with (go_at_call 165; refine (c1 _).mono ?_; clear c1; rintro e w1 ⟨rfl, g1⟩)
  go_ret
  exact ⟨rfl, hg.then g1⟩
def cmpI (a b : Int) : Int := if a < b then -1 else if b < a then 1 else 0
set_option maxRecDepth 100000 in
set_option maxHeartbeats 1000000 in
theorem compare_any (a b : Int) (W0 : World) :
    Calls Tryz.prog 203 #[.int .i64 a, .int .i64 b] W0 fun e w' => e = .returned (.int .i64 (cmpI a b)) ∧ W0 = w' := by
  obtain ⟨r, hr⟩ : ∃ r, cmpI a b = r := ⟨_, rfl⟩
  rw [hr]
  replace hr : Aside (cmpI a b = r) := hr
  go_enter Tryz.func203, Tryz.ntmps203
  go_wp2
  all_goals
    go_ret
    refine ⟨?_, rfl⟩
  all_goals
    rw [← hr.out]
    unfold cmpI
    first | (rw [if_pos (by omega)]; rfl) | (rw [if_neg (by omega), if_pos (by omega)]; rfl) | (rw [if_neg (by omega), if_neg (by omega)]; rfl)
set_option maxRecDepth 100000 in
set_option maxHeartbeats 1000000 in
theorem runs2_any (x y : Ext) (W0 : World) :
    Calls Tryz.prog 202 #[extV x, extV y] W0 fun e w' => e = .returned (.int .i64 (cmpI x.slot y.slot)) ∧ w' = (W0.alloc (.cells #[.int .i64 x.at_, .int .i64 x.len, .int .i64 x.slot] 105)).alloc (.cells #[.int .i64 y.at_, .int .i64 y.len, .int .i64 y.slot] 105) := by
  have c1 := fun W => compare_any x.slot y.slot W
  unfold extV
  go_enter Tryz.func202, Tryz.ntmps202
  go_wp2_with (go_at_call 203; refine (c1 _).mono ?_; clear c1; rintro e w1 ⟨rfl, rfl⟩)
  go_ret
  exact ⟨rfl, rfl⟩
set_option maxRecDepth 100000 in
set_option maxHeartbeats 1000000 in
theorem clone_ext_any {l : List Ext} {v : Value} {W0 : World} (h : Exts W0 v l) (hn : l.length ≤ 1000000) :
    Calls Tryz.prog 159 #[v] W0 (RetE W0.heap.size l W0) := by
  obtain ⟨i0, hi, hz0, hz1, hz2⟩ := info_parts infoE
  obtain ⟨h1, h2⟩ := h
  rcases h2 with ⟨rfl, h0⟩ | ⟨b, off, cap, rfl, hc, hm, hcell⟩
  · obtain rfl := List.eq_nil_of_length_eq_zero h0
    have hq : ∀ w, (binOp BinOp.eql 40 (.slice none 0 0) (.slice none 0 0)).run Tryz.prog w = .ok (.bool true) w := fun w => rfl
    go_enter Tryz.func159, Tryz.ntmps159
    go_wp2
    go_ret
    exact ⟨_, rfl, OwnE.nil _ _, Grw.self _⟩
  · have hq : ∀ w, (binOp BinOp.eql 40 (.slice (some ⟨b, off, none⟩) l.length cap) (.slice none 0 0)).run Tryz.prog w = .ok (.bool false) w := fun w => rfl
    have hown := World.ownsRow_lit (base := W0.heap.size) (e := 105) (size := 3) W0 #[] 0 (Nat.le_refl _) (by unfold maxLen; omega) rfl
    have hnews : ∀ j u, (flat extC l)[j]? = some u → (W0.alloc (.cells #[] 105)).cell? ((⟨b, off, none⟩ : Addr).add j) = some u := fun j u hu => by rw [addr_add]; exact Grw.cell (hcell j u hu) _ (Grw.alloc _ _)
    have hone : ∀ u ∈ flat extC l, u.oneCell' = true := fun u hu => by
      unfold flat at hu
      obtain ⟨cs, hcs, hu2⟩ := List.mem_flatten.1 hu
      obtain ⟨x, _, rfl⟩ := List.mem_map.1 hcs
      exact ext_one x u hu2
    have hfl : (flat extC l).length = l.length * 3 := flat_length extC_len l
    have hln : Aside (l.length ≤ 1000000) := hn
    replace hnews : Aside (∀ j u, (flat extC l)[j]? = some u → (W0.alloc (.cells #[] 105)).cell? ((⟨b, off, none⟩ : Addr).add j) = some u) := hnews
    replace hone : Aside (∀ u ∈ flat extC l, u.oneCell' = true) := hone
    replace hfl : Aside ((flat extC l).length = l.length * 3) := hfl
    clear hcell h1
    go_enter Tryz.func159, Tryz.ntmps159
    go_wp2_with (at_builtin; refine wpList_append_own _ rfl _ _ 40 rfl W0.heap.size 105 i0 _ 3 24 Tryz.underlying40 hi hz0 hz1 hz2 rfl (by decide) _ 0 [] rfl hown ⟨b, off, none⟩ l.length cap (flat extC l) rfl hfl.out hnews.out hone.out (by have := hln.out; unfold maxLen; omega) (by have := hln.out; omega) (by simp) ?_; intro v' w1 hown1 hgrow _)
    go_ret
    refine ⟨_, rfl, ?_, ?_⟩
    · have := hown1
      rw [List.nil_append, Nat.zero_add] at this
      exact this
    · refine show Below _ _ _ from Below.grown (Grw.alloc W0 (.cells #[] 105)) hgrow (by simp) (fun k e => ?_)
      have e2 : some W0.heap.size = some k := e
      have : W0.heap.size = k := by injection e2
      omega
end Go.Proofs.YtbfdnfkflnajlaaGreat

/-! slices.DeleteFunc where nothing is deleted. -/
namespace Go.Proofs.YtbfdnfkflnajlaaGreat
open Go.RowKit
open Ext hiding One

set_option maxRecDepth 100000 in
set_option maxHeartbeats 1000000 in
theorem index_ext_any {s : Value} {l : List Ext} {W0 : World} (hs : Exts W0 s l) (ho : ∀ x ∈ l, x.One) :
    Calls Tryz.prog 206 #[s, .func (.func 200) #[] #[]] W0 fun e w' => e = .returned (.int .i64 (-1)) ∧ Grw W0 w' := by
  obtain ⟨A, cap, rfl, hc, hm, hx⟩ := hs.shape
  clear hs
  unfold maxLen at hm
  replace hx : Aside (∀ i x, l[i]? = some x → ∃ b off, A = some ⟨b, off, none⟩ ∧ W0.cell? ⟨b, off + i * 3, none⟩ = some (.int .i64 x.at_) ∧ W0.cell? ⟨b, off + i * 3 + 1, none⟩ = some (.int .i64 x.len) ∧ W0.cell? ⟨b, off + i * 3 + 2, none⟩ = some (.int .i64 x.slot)) := hx
  replace ho : Aside (∀ x ∈ l, x.One) := ho
  go_enter Tryz.func206, Tryz.ntmps206
  go_wp2
  go_loopg [8] l.length (fun g i wr => ∃ k : Nat, k ≤ l.length ∧ g = l.length - k ∧ i = .int .i64 k ∧ Grw W0 wr)
  case atStart => exact ⟨0, Nat.zero_le _, rfl, rfl, Grw.self _⟩
  case round =>
    obtain ⟨k, hk, rfl, rfl, hg⟩ := hrel
    by_cases hlt : k < l.length
    · obtain ⟨x, hlx⟩ : ∃ x, l[k]? = some x := ⟨l[k], List.getElem?_eq_getElem hlt⟩
      obtain ⟨b, off, rfl, p0, p1, p2⟩ := hx.out k x hlx
      replace p0 := Grw.cell p0 _ hg
      replace p1 := Grw.cell p1 _ hg
      replace p2 := Grw.cell p2 _ hg
      have c1 := runs1_any x wr
      rw [decide_eq_true (ho.out x (List.mem_of_getElem? hlx))] at c1
      clear hlx
      go_wp2_with (go_at_call 200; refine c1.mono ?_; clear c1; rintro e w1 ⟨rfl, g1⟩)
      go_roundg (l.length - (k + 1))
      case measure => omega
      case rel => exact ⟨k + 1, by omega, rfl, rfl, hg.then g1⟩
    · obtain rfl : k = l.length := by omega
      clear hx
      go_wp2
      go_ret
      exact ⟨rfl, hg⟩
set_option maxRecDepth 100000 in
set_option maxHeartbeats 1000000 in
theorem delete_any {s : Value} {l : List Ext} {W0 : World} (hs : Exts W0 s l) (ho : ∀ x ∈ l, x.One) :
    Calls Tryz.prog 199 #[s, .func (.func 200) #[] #[]] W0 fun e w' => e = .returned s ∧ Grw W0 w' := by
  have c1 := index_ext_any hs ho
  obtain ⟨A, cap, rfl, -, -, -⟩ := hs.shape
  go_enter Tryz.func199, Tryz.ntmps199
  go_wp2_with (go_at_call 206; refine c1.mono ?_; clear c1; rintro e w1 ⟨rfl, g1⟩)
  go_ret
  exact ⟨rfl, g1⟩
end Go.Proofs.YtbfdnfkflnajlaaGreat
