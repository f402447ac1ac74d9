/-
  alloc: end, run, size, clip. alloc: clip. alloc: fit, lowest. alloc: lowest, without. alloc: without, New, Free, Runs, the ways to choose.
-/
import Derived.Test.YtbfdnfkflnajlaaGreatJ09
import Derived.Test.YtbfdnfkflnajlaaGreatJ13
import Derived.Test.YtbfdnfkflnajlaaGreatJ14
import Derived.Test.YtbfdnfkflnajlaaGreatJ18
import Derived.Deep.CutRange
import Derived.Deep.AppendSrc
set_option linter.unusedVariables false
set_option linter.unusedSimpArgs false
/-! alloc: end, run, size, clip. -/
namespace Go.Proofs.YtbfdnfkflnajlaaGreat
open Go.RowKit
open Ext hiding One

set_option maxRecDepth 100000 in
set_option maxHeartbeats 1000000 in
theorem aend_any {x : Ext} {W0 : World} (h1 : -1000000 ≤ x.slot ∧ x.slot ≤ 1000000) (h2 : -1000000 ≤ x.len ∧ x.len ≤ 1000000) :
    Calls Tryz.prog 198 #[extV x] W0 fun e w' => e = .returned (.int .i64 (x.slot + x.len)) ∧ Grw W0 w' := by
  have hg := Grw.alloc W0 (.cells #[.int .i64 x.at_, .int .i64 x.len, .int .i64 x.slot] 105)
  have hw : IntKind.i64.wrap (x.slot + x.len) = x.slot + x.len := wrapI (by omega) (by omega)
  unfold extV
  go_enter Tryz.func198, Tryz.ntmps198
  go_wp2
  go_ret
  exact ⟨rfl, hg⟩
set_option maxRecDepth 100000 in
set_option maxHeartbeats 1000000 in
theorem arun_any {a b : Int} {W0 : World} (h1 : -1000000 ≤ a ∧ a ≤ 1000000) (h2 : -1000000 ≤ b ∧ b ≤ 1000000) :
    Calls Tryz.prog 205 #[.int .i64 a, .int .i64 b] W0 fun e w' => e = .returned (extV ⟨0, b - a, a⟩) ∧ Grw W0 w' := by
  have hg := Grw.alloc W0 (.cells #[.int .i64 0, .int .i64 (b - a), .int .i64 a] 105)
  have hw : IntKind.i64.wrap (b - a) = b - a := wrapI (by omega) (by omega)
  unfold extV
  go_enter Tryz.func205, Tryz.ntmps205
  go_wp2
  refine bodyPost_ret (v := .agg #[.int .i64 0, .int .i64 (b - a), .int .i64 a]) (by simp [results, Tryz.results205, go_sem]) rfl ⟨rfl, hg⟩
theorem sumL_take_s {l : List Ext} {k : Nat} {x : Ext} (hx : l[k]? = some x) : sumL (l.take (k + 1)) = sumL (l.take k) + x.len := by
  have hk : k < l.length := (List.getElem?_eq_some_iff.1 hx).1
  rw [List.take_succ_eq_append_getElem hk, sumL_append, show l[k] = x from (List.getElem?_eq_some_iff.1 hx).2]
  simp [sumL]
set_option maxRecDepth 100000 in
set_option maxHeartbeats 1000000 in
theorem asize_any {l : List Ext} {v : Value} {N : Nat} {W0 : World} (h : Exts W0 v l) (hl : inL1 N l) (hs : sumL l ≤ 1000000) :
    Calls Tryz.prog 158 #[v] W0 fun e w' => e = .returned (.int .i64 (sumL l)) ∧ Grw W0 w' := by
  obtain ⟨A, cap, rfl, hc, hm, hx⟩ := h.shape
  clear h
  unfold maxLen at hm
  have hb : ∀ k, 0 ≤ sumL (l.take k) ∧ sumL (l.take k) ≤ 1000000 := by
    intro k
    have e : sumL l = sumL (l.take k) + sumL (l.drop k) := by rw [← sumL_append, List.take_append_drop]
    have := sumL_in (n := N) (l := l.drop k) (fun y hy => hl y (List.mem_of_mem_drop hy))
    have := sumL_in (n := N) (l := l.take k) (fun y hy => hl y (List.mem_of_mem_take hy))
    omega
  have hlen : (l.length : Int) ≤ 1000000 := by have := len_le_sum hl; omega
  replace hb : Aside (∀ k, 0 ≤ sumL (l.take k) ∧ sumL (l.take k) ≤ 1000000) := hb
  replace hx : Aside (∀ i x, l[i]? = some x → ∃ b off, A = some ⟨b, off, none⟩ ∧ W0.cell? ⟨b, off + i * 3, none⟩ = some (.int .i64 x.at_) ∧ W0.cell? ⟨b, off + i * 3 + 1, none⟩ = some (.int .i64 x.len) ∧ W0.cell? ⟨b, off + i * 3 + 2, none⟩ = some (.int .i64 x.slot)) := hx
  clear hl
  go_enter Tryz.func158, Tryz.ntmps158
  go_wp2
  go_loopg [3, 8] l.length (fun g s3 i wr => ∃ k : Nat, k ≤ l.length ∧ g = l.length - k ∧ i = .int .i64 k ∧ s3 = .int .i64 (sumL (l.take k)) ∧ Grw W0 wr)
  case atStart => exact ⟨0, Nat.zero_le _, rfl, rfl, by simp [sumL], Grw.self _⟩
  case round =>
    obtain ⟨k, hk, rfl, rfl, rfl, hg⟩ := hrel
    by_cases hlt : k < l.length
    · obtain ⟨x, hlx⟩ : ∃ x, l[k]? = some x := ⟨l[k], List.getElem?_eq_getElem hlt⟩
      obtain ⟨b2, off, rfl, p0, p1, p2⟩ := hx.out k x hlx
      replace p0 := Grw.cell p0 _ hg
      replace p1 := Grw.cell p1 _ hg
      replace p2 := Grw.cell p2 _ hg
      have hb1 := hb.out (k + 1)
      have hw := wrapI (n := sumL (l.take (k + 1))) (by omega) (by omega)
      rw [sumL_take_s hlx] at hw
      have hnext : Aside (sumL (l.take (k + 1)) = sumL (l.take k) + x.len) := (sumL_take_s hlx : sumL (l.take (k + 1)) = sumL (l.take k) + x.len)
      clear hlx hx hb1
      go_wp2
      go_roundg (l.length - (k + 1))
      case measure => omega
      case rel => exact ⟨k + 1, by omega, rfl, rfl, by rw [hnext.out], hg.alc _⟩
    · obtain rfl : k = l.length := by omega
      clear hx
      rw [List.take_length]
      go_wp2
      go_ret
      exact ⟨rfl, hg⟩
end Go.Proofs.YtbfdnfkflnajlaaGreat

/-! alloc: clip. -/
namespace Go.Proofs.YtbfdnfkflnajlaaGreat
open Go.RowKit
open Ext hiding One

theorem beforeL_take {l : List Ext} {k : Nat} {x : Ext} (a : Int) (hx : l[k]? = some x) : beforeL (l.take (k + 1)) a = beforeL (l.take k) a ++ (clipB a x).toList := by
  have hk : k < l.length := (List.getElem?_eq_some_iff.1 hx).1
  rw [List.take_succ_eq_append_getElem hk, show l[k] = x from (List.getElem?_eq_some_iff.1 hx).2]
  unfold beforeL
  rw [List.filterMap_append]
  cases h : clipB a x <;> simp [h]
theorem fromL_take {l : List Ext} {k : Nat} {x : Ext} (a : Int) (hx : l[k]? = some x) : fromL (l.take (k + 1)) a = fromL (l.take k) a ++ (clipF a x).toList := by
  have hk : k < l.length := (List.getElem?_eq_some_iff.1 hx).1
  rw [List.take_succ_eq_append_getElem hk, show l[k] = x from (List.getElem?_eq_some_iff.1 hx).2]
  unfold fromL
  rw [List.filterMap_append]
  cases h : clipF a x <;> simp [h]
theorem beforeL_len (l : List Ext) (a : Int) : (beforeL l a).length ≤ l.length := List.length_filterMap_le _ _
theorem fromL_len (l : List Ext) (a : Int) : (fromL l a).length ≤ l.length := List.length_filterMap_le _ _
/-- two rows of the call's own, apart. -/
structure TwoR (W0 : World) (Bs : Nat) (s4 s5 : Value) (F B : List Ext) (w : World) : Prop where
  g : Grw W0 w
  lo : W0.heap.size ≤ Bs
  hi : Bs ≤ w.heap.size
  o4 : OwnE w Bs s4 F
  o5 : OwnE w Bs s5 B
  ne : ∀ k, s4.ownBlock = some k → s5.ownBlock ≠ some k
theorem TwoR.grw {W0 : World} {Bs : Nat} {s4 s5 : Value} {F B : List Ext} {w w' : World} (h : TwoR W0 Bs s4 s5 F B w) (k : Grw w w') : TwoR W0 Bs s4 s5 F B w' :=
  ⟨h.g.then k, h.lo, Nat.le_trans h.hi k.size, h.o4.kept k, h.o5.kept k, h.ne⟩
theorem TwoR.symm {W0 : World} {Bs : Nat} {s4 s5 : Value} {F B : List Ext} {w : World} (h : TwoR W0 Bs s4 s5 F B w) : TwoR W0 Bs s5 s4 B F w :=
  ⟨h.g, h.lo, h.hi, h.o5, h.o4, fun k h5 h4 => h.ne k h4 h5⟩
/-- the second row has been appended to. -/
theorem TwoR.app {W0 : World} {Bs : Nat} {s4 s5 : Value} {F B B' : List Ext} {w w' : World} {g cap n : Nat} (h : TwoR W0 Bs s4 s5 F B w) (ho : OwnE w' Bs (.slice (some ⟨g, 0, none⟩) n cap) B') (hg : w.grownBy w' s5.ownBlock) (hat : s5.ownBlock = some g ∨ w.heap.size ≤ g) :
    TwoR W0 Bs s4 (.slice (some ⟨g, 0, none⟩) n cap) F B' w' := by
  have ho4 : OwnE w' Bs s4 F := World.ownsRow.kept h.o4 hg (by
    cases e : s4.ownBlock with
    | none => exact .inl rfl
    | some k => exact .inr (fun e2 => h.ne k e e2.symm))
  refine ⟨grw_own h.g h.o5 h.lo hg, h.lo, Nat.le_trans h.hi hg.size, ho4, ho, fun k hk => ?_⟩
  intro e
  have e2 : g = k := Option.some.inj e
  rcases hat with h1 | h1
  · exact h.ne k hk (by rw [h1, e2])
  · have := own_lt h.o4 k hk
    omega
/-- own rows from block Bs on, the box bx left out. -/
def RowX (Bs bx : Nat) (k : Nat) : Prop := Bs ≤ k ∧ k ≠ bx
theorem GrwX.app {X : Nat → Prop} {a b c : World} {row : Option Nat} (h : GrwX X a b) (k : b.grownBy c row) (hr : ∀ j, row = some j → X j) : GrwX X a c :=
  h.then ⟨k.os, k.tape, k.output, k.size, fun i hi hx => k.block i hi (fun e => hx (hr i e.symm))⟩
def RetClip (l : List Ext) (a : Int) (w : World) (e : Ending) (w' : World) : Prop := ∃ v1 v2 Bs, e = .returned (.tuple #[v1, v2]) ∧ TwoR w Bs v1 v2 (fromL l a) (beforeL l a) w'
set_option maxRecDepth 100000 in
set_option maxHeartbeats 2000000 in
theorem clip_any {l : List Ext} {v : Value} {a : Int} {W0 : World} (h : Exts W0 v l) (hl : inL1 65536 l) (hn : l.length ≤ 100000) (ha : -1000000 ≤ a ∧ a ≤ 1000000) :
    Calls Tryz.prog 162 #[v, .int .i64 a] W0 (RetClip l a W0) := by
  obtain ⟨i0, hi, hz0, hz1, hz2⟩ := info_parts infoE
  obtain ⟨A, cap, rfl, hc, hm, hx⟩ := h.shape
  clear h
  unfold maxLen at hm
  replace hx : Aside (∀ i x, l[i]? = some x → ∃ b off, A = some ⟨b, off, none⟩ ∧ W0.cell? ⟨b, off + i * 3, none⟩ = some (.int .i64 x.at_) ∧ W0.cell? ⟨b, off + i * 3 + 1, none⟩ = some (.int .i64 x.len) ∧ W0.cell? ⟨b, off + i * 3 + 2, none⟩ = some (.int .i64 x.slot)) := hx
  replace hl : Aside (inL1 65536 l) := hl
  obtain ⟨Bs, hBs⟩ : ∃ Bs, W0.heap.size = Bs := ⟨_, rfl⟩
  go_enter Tryz.func162, Tryz.ntmps162
  go_wp2
  go_loopg [4, 5, 10] l.length (fun g s4 s5 i wr => ∃ k : Nat, k ≤ l.length ∧ g = l.length - k ∧ i = .int .i64 k ∧ TwoR W0 Bs s4 s5 (fromL (l.take k) a) (beforeL (l.take k) a) wr)
  case atStart => exact ⟨0, Nat.zero_le _, rfl, rfl, ⟨Grw.self _, by omega, by omega, OwnE.nil _ _, OwnE.nil _ _, fun k h => by cases h⟩⟩
  case round =>
    obtain ⟨k, hk, rfl, rfl, hT⟩ := hrel
    by_cases hlt : k < l.length
    · obtain ⟨x, hlx⟩ : ∃ x, l[k]? = some x := ⟨l[k], List.getElem?_eq_getElem hlt⟩
      obtain ⟨b2, off, rfl, p0, p1, p2⟩ := hx.out k x hlx
      replace p0 := Grw.cell p0 _ hT.g
      replace p1 := Grw.cell p1 _ hT.g
      replace p2 := Grw.cell p2 _ hT.g
      obtain ⟨x1, x2, x3⟩ := hl.out x (List.mem_of_getElem? hlx)
      have hF := fromL_take a hlx
      have hB := beforeL_take a hlx
      have hFl := fromL_len (l.take k) a
      have hBl := beforeL_len (l.take k) a
      rw [List.length_take] at hFl hBl
      obtain ⟨F0, hF0⟩ : ∃ F0, fromL (l.take k) a = F0 := ⟨_, rfl⟩
      obtain ⟨B0, hB0⟩ : ∃ B0, beforeL (l.take k) a = B0 := ⟨_, rfl⟩
      rw [hF0] at hF hFl hT
      rw [hB0] at hB hBl hT
      replace hF : Aside (fromL (l.take (k + 1)) a = F0 ++ (clipF a x).toList) := hF
      replace hB : Aside (beforeL (l.take (k + 1)) a = B0 ++ (clipB a x).toList) := hB
      have hlnF : Aside (F0.length + 1 ≤ 1000000) := (by omega : F0.length + 1 ≤ 1000000)
      have hlnB : Aside (B0.length + 1 ≤ 1000000) := (by omega : B0.length + 1 ≤ 1000000)
      have c1 := fun (W : World) => aend_any (x := x) (W0 := W) (by omega) (by omega)
      clear hlx hx hF0 hB0 hFl hBl
      have hW := Grw.alloc wr (.cells #[.int .i64 x.at_, .int .i64 x.len, .int .i64 x.slot] 105)
      have hbx := alloc_blk wr (.cells #[.int .i64 x.at_, .int .i64 x.len, .int .i64 x.slot] 105)
      have hTa := hT.grw hW
      have hnb4 : Value.ownBlock _ ≠ some wr.heap.size := fun e => by have := own_lt hT.o4 _ e; omega
      have hnb5 : Value.ownBlock _ ≠ some wr.heap.size := fun e => by have := own_lt hT.o5 _ e; omega
      go_upto_if 17 with fail
      obtain ⟨bx, hbxd⟩ : ∃ bx, wr.heap.size = bx := ⟨_, rfl⟩
      rw [hbxd] at hbx hnb4 hnb5 ⊢
      generalize wr.alloc (.cells #[.int .i64 x.at_, .int .i64 x.len, .int .i64 x.slot] 105) = wa at hW hbx hTa ⊢
      clear p0 p1 p2 hT hW
      go_cut [5] from 17 to 27 (fun s5 wx => TwoR W0 Bs u4 s5 F0 (B0 ++ (clipB a x).toList) wx ∧ wx.heap[bx]? = some (.cells #[.int .i64 x.at_, .int .i64 x.len, .int .i64 x.slot] 105 (0, 0)) ∧ s5.ownBlock ≠ some bx)
      case first =>
        by_cases c : x.slot < a
        · have hclip : (clipB a x).toList = [⟨0, min (x.slot + x.len) a - x.slot, x.slot⟩] := by unfold clipB; rw [if_pos c]; rfl
          have hM : (if x.slot + x.len < a then x.slot + x.len else a) = min (x.slot + x.len) a := by split <;> omega
          have hMb : -1000000 ≤ min (x.slot + x.len) a ∧ min (x.slot + x.len) a ≤ 1000000 := by omega
          obtain ⟨M, hMd⟩ : ∃ M, min (x.slot + x.len) a = M := ⟨_, rfl⟩
          rw [hMd] at hM hMb hclip
          have c2 := fun (W : World) => arun_any (a := x.slot) (b := M) (W0 := W) (by omega) hMb
          replace hclip : Aside ((clipB a x).toList = [⟨0, M - x.slot, x.slot⟩]) := hclip
          obtain ⟨d0, d1, d2⟩ := ext_cellsX (X := RowX Bs bx) hbx (fun h => h.2 rfl)
          have gsx := GrwX.self (RowX Bs bx) wa
          go_wp2
          refine gx_region ((RowX Bs bx)) [(0, true), (1, true), (2, true), (3, true), (5, true), (4, false), (6, true), (7, false), (8, false), (9, false), (10, true)] (by kernel_rfl) (by kernel_rfl) (fun c a d v w1 h => by cases d <;> exact h) ?_
          intro A hA
          iterate 5 (apply gx_q hA rfl rfl; intro pp; go_simp; rfl; go_simp)
          have k0 := Grw.drw wa
          refine gx_e hA rfl rfl (fun K hK => ?_)
          go_wp2_with (go_at_call 198; refine (c1 _).mono ?_; rintro e w1 ⟨rfl, g1⟩)
          have k1 := k0.then g1
          refine ⟨k1.x, ?_⟩
          iterate 1 (apply gx_q hA rfl rfl; intro pp; go_simp; rfl; go_simp)
          refine gx_e hA rfl rfl (fun K hK => ?_)
          go_wp2_with (go_at_call 205; refine (c2 _).mono ?_; rintro e w2 ⟨rfl, g2⟩)
          have k2 := k1.then g2
          refine ⟨k2.x, ?_⟩
          replace k1 : Aside (Grw wa w1) := k1
          replace k2 : Aside (Grw wa w2) := k2
          refine gx_e hA rfl rfl (fun K hK => ?_)
          go_wp2
          have k3 := k2.out.alc (.cells #[.int .i64 0, .int .i64 (M - x.slot), .int .i64 x.slot] 105)
          refine ⟨k3.x, ?_⟩
          have hT2 := hTa.grw k3
          have hTh := hT2.hi
          simp only [World.size_alloc] at hTh
          have hn2 := news1 w2 ⟨0, M - x.slot, x.slot⟩
          refine gx_e hA rfl rfl (fun K hK => ?_)
          refine wp_append_lies _ _ _ 40 rfl Bs 105 i0 _ 3 24 Tryz.underlying40 hi hz0 hz1 hz2 rfl (by decide) _ B0.length (flat extC B0) rfl hT2.o5 ⟨w2.heap.size, 0, none⟩ 1 1 (extC ⟨0, M - x.slot, x.slot⟩) rfl rfl hn2 (ext_one _) (by decide) (by have := hlnB.out; unfold maxLen; omega) (by have := hlnB.out; omega) (by simp only [World.size_alloc]; omega) (w2.heap.size + 1) (by simp only [World.size_alloc]) (fun g9 cap9 w9 hown9 hgrow hat hgl => hK _ _ ⟨?_, ?_⟩)
          · exact GrwX.app k3.x hgrow (fun j e => ⟨own_baseE hT2.o5 j e, fun e2 => hnb5 (e.trans (congrArg some e2))⟩)
          · iterate 1 (apply gx_q hA rfl rfl; intro pp; go_simp; rfl; go_simp)
            refine pi_nil ?_
            go_wp2
            go_meet
            case rel =>
              have hbx9 : w9.heap[bx]? = some (.cells #[.int .i64 x.at_, .int .i64 x.len, .int .i64 x.slot] 105 (0, 0)) := (hgrow.block bx (Nat.lt_of_lt_of_le (Array.getElem?_eq_some_iff.1 hbx).1 k3.size) (fun e => hnb5 e.symm)).trans (k3.blk hbx)
              rw [hclip.out]
              refine ⟨hT2.app ?_ hgrow (hat.imp id (fun h => by simp only [World.size_alloc]; omega)), hbx9, fun e => ?_⟩
              · unfold OwnE
                rw [flat_snoc, List.length_append]
                exact hown9
              · have e2 : g9 = bx := Option.some.inj e
                rcases hat with h | h
                · exact hnb5 (h.trans (congrArg some e2))
                · have := (Array.getElem?_eq_some_iff.1 hbx).1
                  have := k2.out.size
                  omega
        · have hclip : Aside ((clipB a x).toList = []) := (by unfold clipB; rw [if_neg c]; rfl : (clipB a x).toList = [])
          go_wp2
          go_meet
          case rel =>
            rw [hclip.out, List.append_nil]
            exact ⟨hTa, hbx, hnb5⟩
      case rest =>
        obtain ⟨hTb, hbx, hnb5⟩ := hcut
        replace hnb5 := True.intro
        clear hTa
        have kw := Grw.self wc
        obtain ⟨d0, d1, d2⟩ := ext_cells hbx
        go_upto_if 31 with (go_at_call 198; refine (c1 _).mono ?_; rintro e w1 ⟨rfl, g1⟩)
        have hTa := hTb.grw g1
        replace hbx := g1.blk hbx
        clear hTb kw d0 d1 d2 g1
        by_cases c : x.slot + x.len > a
        · have hclip : (clipF a x).toList = [⟨0, x.slot + x.len - max x.slot a, max x.slot a⟩] := by unfold clipF; rw [if_pos c]; rfl
          have hM : (if x.slot < a then a else x.slot) = max x.slot a := by split <;> omega
          have hMb : -1000000 ≤ max x.slot a ∧ max x.slot a ≤ 1000000 := by omega
          obtain ⟨M, hMd⟩ : ∃ M, max x.slot a = M := ⟨_, rfl⟩
          rw [hMd] at hM hMb hclip
          have c2 := fun (W : World) => arun_any (a := M) (b := x.slot + x.len) (W0 := W) hMb (by omega)
          replace hclip : Aside ((clipF a x).toList = [⟨0, x.slot + x.len - M, M⟩]) := hclip
          obtain ⟨d0, d1, d2⟩ := ext_cellsX (X := RowX Bs bx) hbx (fun h => h.2 rfl)
          have gsx := GrwX.self (RowX Bs bx) w1
          go_wp2
          refine gx_region ((RowX Bs bx)) [(0, true), (1, true), (2, true), (3, true), (4, true), (5, true), (6, false), (7, false), (8, false), (9, false), (10, true)] (by kernel_rfl) (by kernel_rfl) (fun c a d v w1 h => by cases d <;> exact h) ?_
          intro A hA
          iterate 6 (apply gx_q hA rfl rfl; intro pp; go_simp; rfl; go_simp)
          have k0 := Grw.drw w1
          refine gx_e hA rfl rfl (fun K hK => ?_)
          go_wp2_with (go_at_call 198; refine (c1 _).mono ?_; rintro e w2 ⟨rfl, g2⟩)
          have k1 := k0.then g2
          refine ⟨k1.x, ?_⟩
          refine gx_e hA rfl rfl (fun K hK => ?_)
          go_wp2_with (go_at_call 205; refine (c2 _).mono ?_; rintro e w3 ⟨rfl, g3⟩)
          have k2 := k1.then g3
          refine ⟨k2.x, ?_⟩
          replace k1 : Aside (Grw w1 w2) := k1
          replace k2 : Aside (Grw w1 w3) := k2
          refine gx_e hA rfl rfl (fun K hK => ?_)
          go_wp2
          have k3 := k2.out.alc (.cells #[.int .i64 0, .int .i64 (x.slot + x.len - M), .int .i64 M] 105)
          refine ⟨k3.x, ?_⟩
          have hT2 := (hTa.grw k3).symm
          have hTh := hT2.hi
          simp only [World.size_alloc] at hTh
          have hn2 := news1 w3 ⟨0, x.slot + x.len - M, M⟩
          refine gx_e hA rfl rfl (fun K hK => ?_)
          refine wp_append_lies _ _ _ 40 rfl Bs 105 i0 _ 3 24 Tryz.underlying40 hi hz0 hz1 hz2 rfl (by decide) _ F0.length (flat extC F0) rfl hT2.o5 ⟨w3.heap.size, 0, none⟩ 1 1 (extC ⟨0, x.slot + x.len - M, M⟩) rfl rfl hn2 (ext_one _) (by decide) (by have := hlnF.out; unfold maxLen; omega) (by have := hlnF.out; omega) (by simp only [World.size_alloc]; omega) (w3.heap.size + 1) (by simp only [World.size_alloc]) (fun g9 cap9 w9 hown9 hgrow hat hgl => hK _ _ ⟨?_, ?_⟩)
          · exact GrwX.app k3.x hgrow (fun j e => ⟨own_baseE hT2.o5 j e, fun e2 => hnb4 (e.trans (congrArg some e2))⟩)
          · iterate 1 (apply gx_q hA rfl rfl; intro pp; go_simp; rfl; go_simp)
            refine pi_nil ?_
            go_wp2
            go_roundg (l.length - (k + 1))
            case measure => omega
            case rel =>
              refine ⟨k + 1, by omega, rfl, rfl, ?_⟩
              rw [hF.out, hB.out, hclip.out]
              refine (hT2.app ?_ hgrow (hat.imp id (fun h => by simp only [World.size_alloc]; omega))).symm
              unfold OwnE
              rw [flat_snoc, List.length_append]
              exact hown9
        · have hclip : Aside ((clipF a x).toList = []) := (by unfold clipF; rw [if_neg c]; rfl : (clipF a x).toList = [])
          go_wp2
          go_roundg (l.length - (k + 1))
          case measure => omega
          case rel =>
            refine ⟨k + 1, by omega, rfl, rfl, ?_⟩
            rw [hF.out, hB.out, hclip.out, List.append_nil]
            exact hTa
    · obtain rfl : k = l.length := by omega
      rw [List.take_length] at hT
      clear hx
      go_wp2
      refine bodyPost_ret (v := .tuple #[_, _]) (by simp [results, Tryz.results162, go_sem]) rfl ⟨_, _, _, rfl, hT⟩
end Go.Proofs.YtbfdnfkflnajlaaGreat

/-! alloc: fit, lowest. -/
namespace Go.Proofs.YtbfdnfkflnajlaaGreat
open Go.RowKit
open Ext hiding One

set_option maxRecDepth 100000 in
set_option maxHeartbeats 1000000 in
theorem fit1_any {x : Ext} {n : Int} {b : Nat} {W0 : World} (hb : ∀ B, Grw W0 B → B.cell? ⟨b, 0, none⟩ = some (.int .i64 n)) :
    Calls Tryz.prog 207 #[extV x, ptr b] W0 fun e w' => e = .returned (.bool (decide (n ≤ x.len))) ∧ Grw W0 w' := by
  have hg := Grw.alloc W0 (.cells #[.int .i64 x.at_, .int .i64 x.len, .int .i64 x.slot] 105)
  have h1 := hb _ hg
  clear hb
  unfold extV
  go_enter Tryz.func207, Tryz.ntmps207
  go_wp2
  go_ret
  exact ⟨rfl, hg⟩
/-- the first run that is long enough. -/
def idxL (l : List Ext) (n : Int) : Option Nat := l.findIdx? fun x => decide (n ≤ x.len)
def idxI : Option Nat → Int
  | some i => i
  | none => -1
set_option maxRecDepth 100000 in
set_option maxHeartbeats 1000000 in
theorem index_fit_any {s : Value} {l : List Ext} {n : Int} {b : Nat} {W0 : World} (hs : Exts W0 s l) (hb : ∀ B, Grw W0 B → B.cell? ⟨b, 0, none⟩ = some (.int .i64 n)) :
    Calls Tryz.prog 206 #[s, .func (.func 207) #[] #[ptr b]] W0 fun e w' => e = .returned (.int .i64 (idxI (idxL l n))) ∧ Grw W0 w' := by
  obtain ⟨A, cap, rfl, hc, hm, hx⟩ := hs.shape
  clear hs
  unfold maxLen at hm
  replace hx : Aside (∀ i x, l[i]? = some x → ∃ b off, A = some ⟨b, off, none⟩ ∧ W0.cell? ⟨b, off + i * 3, none⟩ = some (.int .i64 x.at_) ∧ W0.cell? ⟨b, off + i * 3 + 1, none⟩ = some (.int .i64 x.len) ∧ W0.cell? ⟨b, off + i * 3 + 2, none⟩ = some (.int .i64 x.slot)) := hx
  replace hb : Aside (∀ B, Grw W0 B → B.cell? ⟨b, 0, none⟩ = some (.int .i64 n)) := hb
  go_enter Tryz.func206, Tryz.ntmps206
  go_wp2
  go_loopg [8] l.length (fun g i wr => ∃ k : Nat, k ≤ l.length ∧ g = l.length - k ∧ i = .int .i64 k ∧ (∀ j x, j < k → l[j]? = some x → ¬ n ≤ x.len) ∧ Grw W0 wr)
  case atStart => exact ⟨0, Nat.zero_le _, rfl, rfl, fun j x h => by omega, Grw.self _⟩
  case round =>
    obtain ⟨k, hk, rfl, rfl, hno, hg⟩ := hrel
    replace hno : Aside (∀ j x, j < k → l[j]? = some x → ¬ n ≤ x.len) := hno
    by_cases hlt : k < l.length
    · obtain ⟨x, hlx⟩ : ∃ x, l[k]? = some x := ⟨l[k], List.getElem?_eq_getElem hlt⟩
      obtain ⟨b2, off, rfl, p0, p1, p2⟩ := hx.out k x hlx
      replace p0 := Grw.cell p0 _ hg
      replace p1 := Grw.cell p1 _ hg
      replace p2 := Grw.cell p2 _ hg
      have c1 := fit1_any (x := x) (n := n) (b := b) (W0 := wr) (fun B hB => hb.out B (hg.then hB))
      by_cases hc : n ≤ x.len
      · rw [decide_eq_true hc] at c1
        have hres : Aside (idxL l n = some k) := (by
          unfold idxL
          rw [List.findIdx?_eq_some_iff_getElem]
          refine ⟨hlt, ?_, fun j hj => ?_⟩
          · have e : l[k] = x := (List.getElem?_eq_some_iff.1 hlx).2
            rw [e]
            exact decide_eq_true hc
          · simpa using hno.out j l[j] hj (List.getElem?_eq_getElem (by omega)) : idxL l n = some k)
        clear hlx hx
        go_wp2_with (go_at_call 207; refine c1.mono ?_; clear c1; rintro e w1 ⟨rfl, g1⟩)
        go_ret
        exact ⟨by rw [hres.out]; rfl, hg.then g1⟩
      · rw [decide_eq_false hc] at c1
        have hnext : Aside (∀ j y, j < k + 1 → l[j]? = some y → ¬ n ≤ y.len) := (by
          intro j y hj hy
          rcases Nat.lt_or_ge j k with h | h
          · exact hno.out j y h hy
          · obtain rfl : j = k := by omega
            rw [hlx] at hy
            injection hy with hy
            subst hy
            exact hc : ∀ j y, j < k + 1 → l[j]? = some y → ¬ n ≤ y.len)
        clear hlx hx
        go_wp2_with (go_at_call 207; refine c1.mono ?_; clear c1; rintro e w1 ⟨rfl, g1⟩)
        go_roundg (l.length - (k + 1))
        case measure => omega
        case rel => exact ⟨k + 1, by omega, rfl, rfl, hnext.out, hg.then g1⟩
    · obtain rfl : k = l.length := by omega
      have hres : Aside (idxL l n = none) := (by
        unfold idxL
        rw [List.findIdx?_eq_none_iff]
        intro x hx
        obtain ⟨j, hj, rfl⟩ := List.getElem_of_mem hx
        simpa using hno.out j l[j] hj (List.getElem?_eq_getElem hj) : idxL l n = none)
      clear hx
      go_wp2
      go_ret
      exact ⟨by rw [hres.out]; rfl, hg⟩
theorem ftL_idx {l : List Ext} {n : Int} : ftL l n = match idxL l n with | none => none | some i => (l[i]?).map fun x => [⟨0, n, x.slot⟩] := by
  unfold ftL idxL
  cases h : l.findIdx? (fun x => decide (n ≤ x.len)) with
  | none =>
    rw [List.findIdx?_eq_none_iff] at h
    simp only
    rw [List.find?_eq_none.2 (fun x hx => by simpa using h x hx)]
    rfl
  | some i =>
    obtain ⟨h1, h2, h3⟩ := List.findIdx?_eq_some_iff_getElem.1 h
    simp only
    rw [List.getElem?_eq_getElem h1]
    have : l.find? (fun x => decide (n ≤ x.len)) = some l[i] := by
      rw [List.find?_eq_some_iff_getElem]
      exact ⟨h2, i, h1, rfl, fun j hj => by simpa using h3 j hj⟩
    rw [this]
/-- runs and a word whether there are any. -/
def RetFit (o : Option (List Ext)) (w : World) (e : Ending) (w' : World) : Prop := ∃ v, e = .returned (.tuple #[v, .bool o.isSome]) ∧ Exts w' v (o.getD []) ∧ Grw w w'
set_option maxRecDepth 100000 in
set_option maxHeartbeats 1000000 in
theorem fit_any {s : Value} {l : List Ext} {n : Int} {W0 : World} (hs : Exts W0 s l) (hl : inL1 65536 l) (hn : 0 ≤ n ∧ n ≤ 1000000) (hln : l.length ≤ 1000000) :
    Calls Tryz.prog 163 #[s, .int .i64 n] W0 (RetFit (ftL l n) W0) := by
  have hW := Grw.alloc W0 (.cells #[.int .i64 n] 3)
  have hb := alloc_blk W0 (.cells #[.int .i64 n] 3)
  have c1 := index_fit_any (hs.grw hW) (fun B hB => (var_facts (hB.blk hb)).1)
  obtain ⟨A, cap, rfl, hc, hm, hx⟩ := hs.shape
  clear hs
  unfold maxLen at hm
  have hmf : ∀ (fn : Fn) (first cap : Array Value) (w : World), (Instr.makeFunc fn first cap).run Tryz.prog w = .ok (.func fn first cap) w := fun _ _ _ _ => rfl
  rw [ftL_idx]
  cases hidx : idxL l n with
  | none =>
    rw [hidx] at c1
    unfold idxI at c1
    clear hx hidx
    go_enter Tryz.func163, Tryz.ntmps163
    go_wp2_with (go_at_call 206; refine c1.mono ?_; clear c1; rintro e w1 ⟨rfl, g1⟩)
    refine bodyPost_ret (v := .tuple #[.slice none 0 0, .bool false]) (by simp [results, Tryz.results163, go_sem]) rfl ⟨_, rfl, Rows.nil _ 3, hW.then g1⟩
  | some i =>
    rw [hidx] at c1
    unfold idxI at c1
    have hi : i < l.length := by
      unfold idxL at hidx
      exact (List.findIdx?_eq_some_iff_getElem.1 hidx).1
    obtain ⟨x, hlx⟩ : ∃ x, l[i]? = some x := ⟨l[i], List.getElem?_eq_getElem hi⟩
    have hnx : n ≤ x.len := by
      unfold idxL at hidx
      obtain ⟨_, h2, _⟩ := List.findIdx?_eq_some_iff_getElem.1 hidx
      rw [show l[i] = x from (List.getElem?_eq_some_iff.1 hlx).2] at h2
      simpa using h2
    obtain ⟨b2, off, rfl, p0, p1, p2⟩ := hx i x hlx
    obtain ⟨x1, x2, x3⟩ := hl x (List.mem_of_getElem? hlx)
    simp only
    rw [hlx]
    have c2 := fun (W : World) => arun_any (a := x.slot) (b := x.slot + n) (W0 := W) (by omega) (by omega)
    rw [show x.slot + n - x.slot = n by omega] at c2
    have hw : IntKind.i64.wrap (x.slot + n) = x.slot + n := wrapI (by omega) (by omega)
    clear hx hidx hlx hl
    go_enter Tryz.func163, Tryz.ntmps163
    go_wp2_with (go_at_call 206; refine c1.mono ?_; clear c1; rintro e w1 ⟨rfl, g1⟩)
    have q2 := fun (B : World) (hB : Grw w1 B) => Grw.cell p2 B ((hW.then g1).then hB)
    have q0 := fun (B : World) (hB : Grw w1 B) => (var_facts (hB.blk (g1.blk hb))).1
    have gs := Grw.self w1
    refine gw_region [(0, true), (1, true), (2, true), (3, true), (4, true), (5, true), (6, true), (7, true), (8, true), (9, true), (10, true), (11, true), (12, false), (13, false), (14, true), (15, true)] (by kernel_rfl) (by kernel_rfl) (fun c a d v w1 h => by cases d <;> exact h) ?_
    intro A hA
    iterate 12 (apply gw_q hA rfl rfl; intro pp; go_simp; rfl; go_simp)
    have k0 := Grw.drw w1
    refine gw_e hA rfl rfl (fun K hK => ?_)
    go_wp2_with (go_at_call 205; refine (c2 _).mono ?_; clear c2; rintro e w2 ⟨rfl, g2⟩)
    have k2 := k0.then g2
    refine ⟨k2, ?_⟩
    replace k2 : Aside (Grw w1 w2) := k2
    refine gw_e hA rfl rfl (fun K hK => ?_)
    go_wp2
    refine ⟨k2.out.alc _, ?_⟩
    iterate 2 (apply gw_q hA rfl rfl; intro pp; go_simp; rfl; go_simp)
    refine pi_nil ?_
    go_wp2
    have e1 := exts_one w2 ⟨0, n, x.slot⟩
    refine bodyPost_ret (v := .tuple #[_, .bool true]) (by simp [results, Tryz.results163, go_sem]) rfl ⟨_, rfl, e1, (hW.then g1).then (k2.out.alc _)⟩
end Go.Proofs.YtbfdnfkflnajlaaGreat

/-! alloc: lowest, without. -/
namespace Go.Proofs.YtbfdnfkflnajlaaGreat
open Go.RowKit
open Ext hiding One

theorem run_append_none (w : World) (base : Option Addr) (n cap : Nat) (ty : TypeId) (h : n ≤ cap) :
    (Builtin.append_ #[40, 40] ty #[.slice base n cap, .slice none 0 0]).run Tryz.prog w = .ok (.slice base n cap) w := by
  obtain ⟨i0, hi, hz0, hz1, hz2⟩ := info_parts infoE
  cases base with
  | none =>
    simp [Builtin.append_, run_underlying Tryz.underlying40, sizeOf, typeInfo, hi, Builtin.lenOf, h, run_firstCells_none, Result.andThen]
  | some ad =>
    simp [Builtin.append_, run_underlying Tryz.underlying40, sizeOf, typeInfo, hi, Builtin.lenOf, h, run_firstCells_none, storeCells, Result.andThen]
theorem own_cap {w : World} {base : Nat} {v : Value} {l : List Ext} (h : OwnE w base v l) : ∃ A cap, v = .slice A l.length cap ∧ l.length ≤ cap := by
  obtain ⟨A, cap, e, hc, -⟩ := h.exts.shape
  exact ⟨A, cap, e, hc⟩
/-- 'append(own, list...)', the list whatever. -/
theorem wpList_app {w : World} {ops : Array Oper} {rest : List Oper} {o : Oper} {a : Act} {Q : Exit → Act → World → Prop} (hgd : o.guard = none) (s x : Operand)
    (ho : o.op = .call { callee := .builtin .append, args := #[s, x], argTypes := #[40, 40] })
    (base : Nat) (v xv : Value) (F R : List Ext) (hs : a.eval s = v) (hown : OwnE w base v F) (hx : a.eval x = xv) (hR : Exts w xv R) (hlen : F.length + R.length ≤ 1000000) (hbase : base ≤ w.heap.size)
    (h : ∀ v' w', OwnE w' base v' (F ++ R) → w.grownBy w' v.ownBlock → wpList Tryz.prog ops Q rest (a.put o.dst v') w') : wpList Tryz.prog ops Q (o :: rest) a w := by
  obtain ⟨i0, hi, hz0, hz1, hz2⟩ := info_parts infoE
  obtain ⟨h1, h2⟩ := hR
  rcases h2 with ⟨rfl, h0⟩ | ⟨b, off, cap, rfl, hc, hm, hcell⟩
  · obtain rfl := List.eq_nil_of_length_eq_zero h0
    obtain ⟨A, cap, rfl, hc⟩ := own_cap hown
    refine wpList_plain hgd fun K hK => ?_
    have hr := run_append_none w A F.length cap o.type hc
    unfold Oper.wp
    simp [execOp, ho, resolve, invoke, builtin, hs, hx, hr, Result.andThen]
    refine hK _ _ (h _ _ (by simpa using hown) ⟨rfl, rfl, rfl, Nat.le_refl _, fun _ _ _ => rfl⟩)
  · have hone : ∀ u ∈ flat extC R, u.oneCell' = true := fun u hu => by
      unfold flat at hu
      obtain ⟨cs, hcs, hu2⟩ := List.mem_flatten.1 hu
      obtain ⟨y, _, rfl⟩ := List.mem_map.1 hcs
      exact ext_one y u hu2
    refine wpList_append_own _ hgd _ _ 40 ho base 105 i0 _ 3 24 Tryz.underlying40 hi hz0 hz1 hz2 rfl (by decide) v F.length (flat extC F) hs hown ⟨b, off, none⟩ R.length cap (flat extC R) hx h1 (fun j u hu => by rw [addr_add]; exact hcell j u hu) hone (by unfold maxLen; omega) (by omega) hbase ?_
    intro v' w' hown' hg _
    refine h v' w' ?_ hg
    unfold OwnE
    rw [flat_append, List.length_append]
    exact hown'
def restL : List Ext → Int → Int
  | [], n => n
  | x :: l, n => restL l (n - min n x.len)
theorem lowestL_take {l : List Ext} {k : Nat} {x : Ext} (hx : l[k]? = some x) : ∀ n : Int, lowestL (l.take (k + 1)) n = lowestL (l.take k) n ++ (if 0 < min (restL (l.take k) n) x.len then [⟨0, min (restL (l.take k) n) x.len, x.slot⟩] else []) ∧ restL (l.take (k + 1)) n = restL (l.take k) n - min (restL (l.take k) n) x.len := by
  induction l generalizing k with
  | nil => simp at hx
  | cons y l ih =>
    intro n
    cases k with
    | zero =>
      simp at hx
      subst hx
      simp [lowestL, restL]
    | succ k =>
      have hx' : l[k]? = some x := by simpa using hx
      obtain ⟨h1, h2⟩ := ih hx' (n - min n y.len)
      simp only [List.take_succ_cons, lowestL, restL]
      rw [h1, h2, List.append_assoc]
      exact ⟨rfl, rfl⟩
theorem restL_bound {N : Nat} : ∀ {l : List Ext} {n : Int}, inL1 N l → 0 ≤ n → 0 ≤ restL l n ∧ restL l n ≤ n
  | [], n, _, h => by simp only [restL]; omega
  | x :: l, n, hl, h => by
    have hx := hl x (by simp)
    have := restL_bound (l := l) (n := n - min n x.len) (fun y hy => hl y (by simp [hy])) (by omega)
    simp only [restL]; omega
theorem lowestL_len (l : List Ext) : ∀ n : Int, (lowestL l n).length ≤ l.length := by
  induction l with
  | nil => intro n; simp [lowestL]
  | cons x l ih =>
    intro n
    have := ih (n - min n x.len)
    simp only [lowestL, List.length_append, List.length_cons]
    split <;> simp <;> omega
set_option maxRecDepth 100000 in
set_option maxHeartbeats 2000000 in
theorem lowest_any {l : List Ext} {v : Value} {n : Int} {W0 : World} (h : Exts W0 v l) (hl : inL1 65536 l) (hln : l.length ≤ 100000) (hn : 0 ≤ n ∧ n ≤ 1000000) :
    Calls Tryz.prog 164 #[v, .int .i64 n] W0 (RetE W0.heap.size (lowestL l n) W0) := by
  obtain ⟨i0, hi, hz0, hz1, hz2⟩ := info_parts infoE
  obtain ⟨A, cap, rfl, hc, hm, hx⟩ := h.shape
  clear h
  unfold maxLen at hm
  replace hx : Aside (∀ i x, l[i]? = some x → ∃ b off, A = some ⟨b, off, none⟩ ∧ W0.cell? ⟨b, off + i * 3, none⟩ = some (.int .i64 x.at_) ∧ W0.cell? ⟨b, off + i * 3 + 1, none⟩ = some (.int .i64 x.len) ∧ W0.cell? ⟨b, off + i * 3 + 2, none⟩ = some (.int .i64 x.slot)) := hx
  replace hl : Aside (inL1 65536 l) := hl
  replace hn : Aside (0 ≤ n ∧ n ≤ 1000000) := hn
  obtain ⟨Bs, hBs⟩ : ∃ Bs, W0.heap.size = Bs := ⟨_, rfl⟩
  rw [hBs]
  go_enter Tryz.func164, Tryz.ntmps164
  go_wp2
  go_loopg [1, 5, 11] l.length (fun g s1 s5 i wr => ∃ k : Nat, k ≤ l.length ∧ g = l.length - k ∧ i = .int .i64 k ∧ s1 = .int .i64 (restL (l.take k) n) ∧ OwnE wr Bs s5 (lowestL (l.take k) n) ∧ Grw W0 wr)
  case atStart => exact ⟨0, Nat.zero_le _, rfl, rfl, rfl, OwnE.nil _ _, Grw.self _⟩
  case round =>
    obtain ⟨k, hk, rfl, rfl, rfl, hown, hg⟩ := hrel
    by_cases hlt : k < l.length
    · obtain ⟨x, hlx⟩ : ∃ x, l[k]? = some x := ⟨l[k], List.getElem?_eq_getElem hlt⟩
      obtain ⟨b2, off, rfl, p0, p1, p2⟩ := hx.out k x hlx
      replace p0 := Grw.cell p0 _ hg
      replace p1 := Grw.cell p1 _ hg
      replace p2 := Grw.cell p2 _ hg
      obtain ⟨x1, x2, x3⟩ := hl.out x (List.mem_of_getElem? hlx)
      obtain ⟨e1, e2⟩ := lowestL_take hlx n
      have hrb := restL_bound (l := l.take k) (fun y hy => hl.out y (List.mem_of_mem_take hy)) hn.out.1
      have hn2 := hn.out.2
      have hll := lowestL_len (l.take k) n
      rw [List.length_take] at hll
      obtain ⟨R, hR⟩ : ∃ R, restL (l.take k) n = R := ⟨_, rfl⟩
      obtain ⟨LL, hLL⟩ : ∃ LL, lowestL (l.take k) n = LL := ⟨_, rfl⟩
      rw [hR] at e1 e2 hrb ⊢
      rw [hLL] at e1 hown hll
      obtain ⟨M, hM⟩ : ∃ M, min R x.len = M := ⟨_, rfl⟩
      have hMb : 0 ≤ M ∧ M ≤ R ∧ M ≤ x.len := by omega
      have hM2 : (if R < x.len then R else x.len) = M := by rw [← hM]; split <;> omega
      rw [hM] at e1 e2
      have hw1 : IntKind.i64.wrap (x.slot + M) = x.slot + M := wrapI (by omega) (by omega)
      have hw2 : IntKind.i64.wrap (R - M) = R - M := wrapI (by omega) (by omega)
      replace e2 : Aside (restL (l.take (k + 1)) n = R - M) := e2
      have hln2 : Aside (LL.length + 1 ≤ 1000000) := (by omega : LL.length + 1 ≤ 1000000)
      have hgs : Bs ≤ wr.heap.size := by have := hg.size; omega
      clear hlx hx hll hR hLL
      by_cases h0 : 0 < M
      · rw [if_pos h0] at e1
        replace e1 : Aside (lowestL (l.take (k + 1)) n = LL ++ [⟨0, M, x.slot⟩]) := e1
        have c2 := fun (W : World) => arun_any (a := x.slot) (b := x.slot + M) (W0 := W) (by omega) (by omega)
        rw [show x.slot + M - x.slot = M by omega] at c2
        go_wp2_with (first
          | (go_at_call 205; refine (c2 _).mono ?_; clear c2; rintro e w2 ⟨rfl, g2⟩; have k2 := (Grw.alloc wr (.cells #[.int .i64 x.at_, .int .i64 x.len, .int .i64 x.slot] 105)).then g2; have k2s := k2.size; unfold extV)
          | (at_builtin; refine wpList_append_lies _ rfl _ _ 40 rfl Bs 105 i0 _ 3 24 Tryz.underlying40 hi hz0 hz1 hz2 rfl (by decide) _ LL.length (flat extC LL) rfl (World.ownsRow.alloc (hown.kept k2) _) ⟨w2.heap.size, 0, none⟩ 1 1 (extC ⟨0, M, x.slot⟩) rfl rfl (news1 w2 ⟨0, M, x.slot⟩) (ext_one _) (by decide) (by have := hln2.out; unfold maxLen; omega) (by have := hln2.out; omega) (by simp only [World.size_alloc]; omega) (w2.heap.size + 1) (by simp only [World.size_alloc]) ?_; intro g9 cap9 w9 hown9 hgrow hat hgl))
        go_roundg (l.length - (k + 1))
        case measure => omega
        case rel =>
          refine ⟨k + 1, by omega, rfl, rfl, by rw [e2.out], ?_, ?_⟩
          · rw [e1.out]
            unfold OwnE
            rw [flat_snoc, List.length_append]
            exact hown9
          · exact grw_own ((hg.then k2).alc _) (hown.kept (k2.alc _)) (by omega) hgrow
      · rw [if_neg h0, List.append_nil] at e1
        replace e1 : Aside (lowestL (l.take (k + 1)) n = LL) := e1
        go_wp2
        go_roundg (l.length - (k + 1))
        case measure => omega
        case rel => exact ⟨k + 1, by omega, rfl, rfl, by rw [e2.out], by rw [e1.out]; exact hown.kept (Grw.alloc _ _), hg.alc _⟩
    · obtain rfl : k = l.length := by omega
      rw [List.take_length] at hown
      clear hx
      go_wp2
      go_ret
      exact ⟨_, rfl, hown, hg⟩
end Go.Proofs.YtbfdnfkflnajlaaGreat

/-! alloc: without, New, Free, Runs, the ways to choose. -/
namespace Go.Proofs.YtbfdnfkflnajlaaGreat
open Go.RowKit
open Ext hiding One

theorem withoutL_take {l less : List Ext} {k : Nat} {x : Ext} (hx : less[k]? = some x) : withoutL l (less.take (k + 1)) = beforeL (withoutL l (less.take k)) x.slot ++ fromL (fromL (withoutL l (less.take k)) x.slot) (x.slot + x.len) := by
  have hk : k < less.length := (List.getElem?_eq_some_iff.1 hx).1
  rw [List.take_succ_eq_append_getElem hk, withoutL_snoc, show less[k] = x from (List.getElem?_eq_some_iff.1 hx).2]
theorem len_in {l : List Ext} (h : inL1 65536 l) (h1 : ∀ i, occL l i ≤ 1) : l.length ≤ 65536 := by
  have := len_le_sum h
  have := sumL_le h h1
  omega
theorem withoutL_one {l less : List Ext} (h : inL1 65536 l) (h1 : ∀ i, occL l i ≤ 1) (hl : inL1 65536 less) (i : Nat) : occL (withoutL l less) i ≤ 1 := by
  rw [withoutL_occ h (fun x hx => by have := hl x hx; omega)]
  have := h1 i
  split <;> omega
/-- a list comes back. -/
def RetL (l : List Ext) (w : World) (e : Ending) (w' : World) : Prop := ∃ v, e = .returned v ∧ Exts w' v l ∧ Grw w w'
set_option maxRecDepth 100000 in
set_option maxHeartbeats 2000000 in
theorem without_any {l less : List Ext} {v u : Value} {W0 : World} (h : Exts W0 v l) (hu : Exts W0 u less) (hl : inL1 65536 l) (h1 : ∀ i, occL l i ≤ 1) (hls : inL1 65536 less) (hln : less.length ≤ 100000) :
    Calls Tryz.prog 157 #[v, u] W0 (RetL (withoutL l less) W0) := by
  obtain ⟨A, cap, rfl, hc, hm, hx⟩ := hu.shape
  clear hu
  unfold maxLen at hm
  replace hx : Aside (∀ i x, less[i]? = some x → ∃ b off, A = some ⟨b, off, none⟩ ∧ W0.cell? ⟨b, off + i * 3, none⟩ = some (.int .i64 x.at_) ∧ W0.cell? ⟨b, off + i * 3 + 1, none⟩ = some (.int .i64 x.len) ∧ W0.cell? ⟨b, off + i * 3 + 2, none⟩ = some (.int .i64 x.slot)) := hx
  have hinv : ∀ k, inL1 65536 (withoutL l (less.take k)) ∧ ∀ i, occL (withoutL l (less.take k)) i ≤ 1 := fun k => ⟨withoutL_in hl, withoutL_one hl h1 (fun y hy => hls y (List.mem_of_mem_take hy))⟩
  replace hinv : Aside (∀ k, inL1 65536 (withoutL l (less.take k)) ∧ ∀ i, occL (withoutL l (less.take k)) i ≤ 1) := hinv
  replace hls : Aside (inL1 65536 less) := hls
  clear hl h1
  obtain ⟨A0, cap0, rfl, -, -, -⟩ := h.shape
  go_enter Tryz.func157, Tryz.ntmps157
  go_wp2
  go_loopg [0, 13] less.length (fun g s0 i wr => ∃ k : Nat, k ≤ less.length ∧ g = less.length - k ∧ i = .int .i64 k ∧ Exts wr s0 (withoutL l (less.take k)) ∧ Grw W0 wr)
  case atStart => exact ⟨0, Nat.zero_le _, rfl, rfl, h, Grw.self _⟩
  case round =>
    clear h
    obtain ⟨k, hk, rfl, rfl, hex, hg⟩ := hrel
    by_cases hlt : k < less.length
    · obtain ⟨x, hlx⟩ : ∃ x, less[k]? = some x := ⟨less[k], List.getElem?_eq_getElem hlt⟩
      obtain ⟨b2, off, rfl, p0, p1, p2⟩ := hx.out k x hlx
      replace p0 := Grw.cell p0 _ hg
      replace p1 := Grw.cell p1 _ hg
      replace p2 := Grw.cell p2 _ hg
      obtain ⟨x1, x2, x3⟩ := hls.out x (List.mem_of_getElem? hlx)
      obtain ⟨i1, i2⟩ := hinv.out k
      have hnext := withoutL_take (l := l) hlx
      obtain ⟨C, hC⟩ : ∃ C, withoutL l (less.take k) = C := ⟨_, rfl⟩
      rw [hC] at hex i1 i2 hnext
      have hCl := len_in i1 i2
      have hW := Grw.alloc wr (.cells #[.int .i64 x.at_, .int .i64 x.len, .int .i64 x.slot] 105)
      have hbx := alloc_blk wr (.cells #[.int .i64 x.at_, .int .i64 x.len, .int .i64 x.slot] 105)
      have c1 := clip_any (a := x.slot) (hex.grw hW) i1 (by omega) (by omega)
      have c2 := fun (W : World) => aend_any (x := x) (W0 := W) (by omega) (by omega)
      have hFl := fromL_len C x.slot
      have hBl := beforeL_len C x.slot
      have hF2 := fromL_len (fromL C x.slot) (x.slot + x.len)
      have c3 := fun (W : World) (v : Value) (hv : Exts W v (fromL C x.slot)) => clip_any (a := x.slot + x.len) hv (fromL_in i1 _) (by omega) (by omega)
      obtain ⟨B1, hB1⟩ : ∃ B1, beforeL C x.slot = B1 := ⟨_, rfl⟩
      obtain ⟨F2, hF2d⟩ : ∃ F2, fromL (fromL C x.slot) (x.slot + x.len) = F2 := ⟨_, rfl⟩
      rw [hB1, hF2d] at hnext
      rw [hB1] at hBl
      rw [hF2d] at hF2
      have hlen : Aside (B1.length + F2.length ≤ 1000000) := (by omega : B1.length + F2.length ≤ 1000000)
      replace hnext : Aside (withoutL l (less.take (k + 1)) = B1 ++ F2) := hnext
      replace c3 : Aside (∀ (W : World) (v : Value) (hv : Exts W v (fromL C x.slot)), _) := c3
      unfold RetClip at c1
      rw [hB1] at c1
      obtain ⟨A9, cap9, rfl, -, -, -⟩ := hex.shape
      clear hlx hx hFl hBl hF2 i1 i2 hC hCl
      go_wp2_with (first
        | (go_at_call 198; refine (c2 _).mono ?_; clear c2; rintro e w2 ⟨rfl, g2⟩)
        | (go_at_call 162; refine c1.mono ?_; clear c1; rintro e w1 ⟨v1, v2, Bs, rfl, hT⟩; obtain ⟨d0, d1, d2⟩ := ext_plain (hT.g.blk hbx))
        | (go_at_call 162; refine (c3.out _ _ (hT.o4.exts.grw g2)).mono ?_; clear c3; rintro e w3 ⟨v3, v4, Bs3, rfl, hT3⟩; have ho5 := hT.o5.kept (g2.then hT3.g); have hF := hT3.o4.exts; rw [hF2d] at hF; have hB5 := hT.hi; have hs3 := (g2.then hT3.g).size)
        | (at_builtin; refine wpList_app rfl _ _ rfl Bs _ _ B1 F2 rfl ho5 rfl hF hlen.out (by omega) ?_; intro v9 w9 ho9 hgrow))
      go_roundg (less.length - (k + 1))
      case measure => omega
      case rel => exact ⟨k + 1, by omega, rfl, rfl, by rw [hnext.out]; exact ho9.exts, grw_own (((hg.then hW).then hT.g).then (g2.then hT3.g)) ho5 (by have := hT.lo; have := hg.size; simp only [World.size_alloc] at *; omega) hgrow⟩
    · obtain rfl : k = less.length := by omega
      rw [List.take_length] at hex
      clear hx
      obtain ⟨A9, cap9, rfl, -, -, -⟩ := hex.shape
      go_wp2
      go_ret
      exact ⟨_, rfl, hex, hg⟩
end Go.Proofs.YtbfdnfkflnajlaaGreat
