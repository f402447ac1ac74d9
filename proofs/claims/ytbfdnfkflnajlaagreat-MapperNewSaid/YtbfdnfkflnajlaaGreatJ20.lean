/-
  alloc: New, Free, Runs, behind, anywhere, pieces. alloc: permitted, Mark. alloc: Mark.
-/
import Derived.Test.YtbfdnfkflnajlaaGreatJ19
set_option linter.unusedVariables false
set_option linter.unusedSimpArgs false
/-! alloc: New, Free, Runs, behind, anywhere, pieces. -/
namespace Go.Proofs.YtbfdnfkflnajlaaGreat
open Go.RowKit
open Ext hiding One

abbrev amapV (n : Int) (s : Value) : Value := .agg #[.int .i64 n, s]
/-- a map of free slots and an error come back. -/
def RetM (n : Int) (l : List Ext) (k : Int) (w : World) (e : Ending) (w' : World) : Prop := ∃ s, e = .returned (.tuple #[amapV n s, .int .i64 k]) ∧ Exts w' s l ∧ Grw w w'
set_option maxRecDepth 100000 in
set_option maxHeartbeats 1000000 in
theorem anew_any {n : Nat} {W0 : World} (hn : n ≤ 65536) :
    Calls Tryz.prog 110 #[.int .i64 n] W0 (RetM n (if n = 0 then [] else [⟨0, n, 0⟩]) 0 W0) := by
  by_cases h0 : n = 0
  · subst h0
    rw [if_pos rfl]
    go_enter Tryz.func110, Tryz.ntmps110
    go_wp2
    refine bodyPost_ret (v := .tuple #[amapV 0 (.slice none 0 0), .int .i64 0]) (by simp [results, Tryz.results110, go_sem]) rfl ⟨_, rfl, Rows.nil _ 3, Grw.alloc _ _⟩
  · rw [if_neg h0]
    have h1 : ¬ (n : Int) < 0 := by omega
    have h2 : ¬ (n : Int) > 65536 := by omega
    have h3 : ¬ (n : Int) = 0 := by omega
    have e1 := exts_one (W0.alloc (.cells #[.int .i64 n, .slice (some ⟨W0.heap.size + 1, 0, none⟩) 1 1] 129)) ⟨0, n, 0⟩
    simp only [World.size_alloc] at e1
    go_enter Tryz.func110, Tryz.ntmps110
    go_wp2
    refine bodyPost_ret (v := .tuple #[amapV n (.slice (some ⟨W0.heap.size + 1, 0, none⟩) 1 1), .int .i64 0]) (by simp [results, Tryz.results110, go_sem]) rfl ⟨_, rfl, e1, (Grw.alloc _ _).alc _⟩
set_option maxRecDepth 100000 in
set_option maxHeartbeats 1000000 in
theorem afree_any {n : Int} {s : Value} {l : List Ext} {W0 : World} (h : Exts W0 s l) (hl : inL1 65536 l) (hs : sumL l ≤ 1000000) :
    Calls Tryz.prog 114 #[amapV n s] W0 fun e w' => e = .returned (.int .i64 (sumL l)) ∧ Grw W0 w' := by
  have hW : ∀ s, Grw W0 (W0.alloc (.cells #[.int .i64 n, s] 129)) := fun s => Grw.alloc W0 _
  have c1 := asize_any (h.grw (hW s)) hl hs
  obtain ⟨A, cap, rfl, -, -, -⟩ := h.shape
  replace hW := hW (.slice A l.length cap)
  generalize sumL l = S at *
  go_enter Tryz.func114, Tryz.ntmps114
  go_wp2_with (go_at_call 158; refine c1.mono ?_; clear c1; rintro e w1 ⟨rfl, g1⟩)
  go_ret
  exact ⟨rfl, hW.then g1⟩
set_option maxRecDepth 100000 in
set_option maxHeartbeats 1000000 in
theorem aruns_any {n : Int} {s : Value} {l : List Ext} {W0 : World} (h : Exts W0 s l) (hln : l.length ≤ 1000000) :
    Calls Tryz.prog 112 #[amapV n s] W0 (RetE W0.heap.size l W0) := by
  have hW : ∀ s, Grw W0 (W0.alloc (.cells #[.int .i64 n, s] 129)) := fun s => Grw.alloc W0 _
  have c1 := clone_ext_any (h.grw (hW s)) hln
  obtain ⟨A, cap, rfl, -, -, -⟩ := h.shape
  replace hW := hW (.slice A l.length cap)
  go_enter Tryz.func112, Tryz.ntmps112
  go_wp2_with (go_at_call 159; refine c1.mono ?_; clear c1; rintro e w1 ⟨v1, rfl, ho, g1⟩)
  go_ret
  exact ⟨_, rfl, own_low ho hW.size, hW.then g1⟩
set_option maxRecDepth 100000 in
set_option maxHeartbeats 1000000 in
theorem anywhere_any {m n hint : Int} {s : Value} {l : List Ext} {W0 : World} (h : Exts W0 s l) (hl : inL1 65536 l) (hn : 0 ≤ n ∧ n ≤ 1000000) (hln : l.length ≤ 100000) :
    Calls Tryz.prog 116 #[amapV m s, .int .i64 n, .int .i64 hint] W0 (RetFit (ftL l n) W0) := by
  have hW : ∀ s, Grw W0 (W0.alloc (.cells #[.int .i64 m, s] 129)) := fun s => Grw.alloc W0 _
  have c1 := fit_any (h.grw (hW s)) hl hn (by omega)
  obtain ⟨A, cap, rfl, -, -, -⟩ := h.shape
  replace hW := hW (.slice A l.length cap)
  generalize ftL l n = O at *
  go_enter Tryz.func116, Tryz.ntmps116
  go_wp2_with (go_at_call 163; refine c1.mono ?_; clear c1; rintro e w1 ⟨v1, rfl, he, g1⟩)
  refine bodyPost_ret (v := .tuple #[v1, .bool O.isSome]) (by simp [results, Tryz.results116, go_sem]) rfl ⟨v1, rfl, he, hW.then g1⟩
set_option maxRecDepth 100000 in
set_option maxHeartbeats 1000000 in
theorem behind_any {m n hint : Int} {s : Value} {l : List Ext} {W0 : World} (h : Exts W0 s l) (hl : inL1 65536 l) (hn : 0 ≤ n ∧ n ≤ 1000000) (hln : l.length ≤ 100000) (hh : 0 ≤ hint ∧ hint ≤ 1000000) :
    Calls Tryz.prog 115 #[amapV m s, .int .i64 n, .int .i64 hint] W0 (RetFit (ftL (fromL l hint) n) W0) := by
  have hW : ∀ s, Grw W0 (W0.alloc (.cells #[.int .i64 m, s] 129)) := fun s => Grw.alloc W0 _
  have c1 := clip_any (a := hint) (h.grw (hW s)) hl hln (by omega)
  have hFl := fromL_len l hint
  have c2 := fun (W : World) (v : Value) (hv : Exts W v (fromL l hint)) => fit_any hv (fromL_in hl hint) hn (by omega)
  obtain ⟨A, cap, rfl, -, -, -⟩ := h.shape
  replace hW := hW (.slice A l.length cap)
  replace c2 : Aside (∀ (W : World) (v : Value) (hv : Exts W v (fromL l hint)), _) := c2
  obtain ⟨O, hO⟩ : ∃ O, ftL (fromL l hint) n = O := ⟨_, rfl⟩
  rw [hO] at c2 ⊢
  clear hFl
  go_enter Tryz.func115, Tryz.ntmps115
  go_wp2_with (first
    | (go_at_call 162; refine c1.mono ?_; clear c1; rintro e w1 ⟨v1, v2, Bs, rfl, hT⟩)
    | (go_at_call 163; refine (c2.out _ _ hT.o4.exts).mono ?_; clear c2; rintro e w2 ⟨v3, rfl, he, g2⟩))
  refine bodyPost_ret (v := .tuple #[v3, .bool O.isSome]) (by simp [results, Tryz.results115, go_sem]) rfl ⟨v3, rfl, he, (hW.then hT.g).then g2⟩
set_option maxRecDepth 100000 in
set_option maxHeartbeats 1000000 in
theorem pieces_any {m n hint : Int} {s : Value} {l : List Ext} {W0 : World} (h : Exts W0 s l) (hl : inL1 65536 l) (hn : 0 ≤ n ∧ n ≤ 1000000) (hln : l.length ≤ 100000) (hh : 0 ≤ hint ∧ hint ≤ 1000000) (hs : sumL l ≤ 1000000) :
    Calls Tryz.prog 117 #[amapV m s, .int .i64 n, .int .i64 hint] W0 (RetFit (some (piecesL l n hint)) W0) := by
  have hW : ∀ s, Grw W0 (W0.alloc (.cells #[.int .i64 m, s] 129)) := fun s => Grw.alloc W0 _
  have c1 := clip_any (a := hint) (h.grw (hW s)) hl hln (by omega)
  have hsum : sumL (fromL l hint) ≤ sumL l := by
    rw [sumL_occ hl, sumL_occ (fromL_in hl hint)]
    refine sumTo_le fun i _ => ?_
    rw [fromL_occ hl]
    have := (occL_bound l i).1
    split <;> omega
  have hsf := sumL_in (fromL_in hl hint)
  have hFl := fromL_len l hint
  have hBl := beforeL_len l hint
  have hl1 := lowestL_len (fromL l hint) n
  have hl2 := lowestL_len (beforeL l hint) (n - min n (sumL (fromL l hint)))
  unfold piecesL
  obtain ⟨S, hS⟩ : ∃ S, sumL (fromL l hint) = S := ⟨_, rfl⟩
  rw [hS] at hsum hsf hl2 ⊢
  have c2 := fun (W : World) (v : Value) (hv : Exts W v (fromL l hint)) => lowest_any hv (fromL_in hl hint) (by omega) hn
  have c3 := fun (W : World) (v : Value) (hv : Exts W v (beforeL l hint)) => lowest_any (n := n - min n S) hv (beforeL_in hl hint) (by omega) (by omega)
  have c4 := fun (W : World) (v : Value) (hv : Exts W v (fromL l hint)) => asize_any hv (fromL_in hl hint) (by rw [hS]; omega)
  rw [hS] at c4
  obtain ⟨M, hM⟩ : ∃ M, min n S = M := ⟨_, rfl⟩
  have hM2 : (if n < S then n else S) = M := by rw [← hM]; split <;> omega
  have hMb : 0 ≤ M ∧ M ≤ n := by omega
  rw [hM] at c3 hl2 ⊢
  have hw : IntKind.i64.wrap (n - M) = n - M := wrapI (by omega) (by omega)
  obtain ⟨L1, hL1⟩ : ∃ L1, lowestL (fromL l hint) n = L1 := ⟨_, rfl⟩
  obtain ⟨L2, hL2⟩ : ∃ L2, lowestL (beforeL l hint) (n - M) = L2 := ⟨_, rfl⟩
  rw [hL1] at c2 hl1 ⊢
  rw [hL2] at c3 hl2 ⊢
  have hlen : Aside (L1.length + L2.length ≤ 1000000) := (by omega : L1.length + L2.length ≤ 1000000)
  obtain ⟨A, cap, rfl, -, -, -⟩ := h.shape
  replace hW := hW (.slice A l.length cap)
  replace c2 : Aside (∀ (W : World) (v : Value) (hv : Exts W v (fromL l hint)), _) := c2
  replace c3 : Aside (∀ (W : World) (v : Value) (hv : Exts W v (beforeL l hint)), _) := c3
  replace c4 : Aside (∀ (W : World) (v : Value) (hv : Exts W v (fromL l hint)), _) := c4
  clear hFl hBl hl1 hl2 hS hL1 hL2 hsum hsf hs hh
  go_enter Tryz.func117, Tryz.ntmps117
  go_wp2_with (first
    | (go_at_call 162; refine c1.mono ?_; clear c1; rintro e w1 ⟨v1, v2, Bs, rfl, hT⟩)
    | (go_at_call 164; refine (c2.out _ _ hT.o4.exts).mono ?_; clear c2; rintro e w2 ⟨v3, rfl, ho3, g2⟩)
    | (go_at_call 158; refine (c4.out _ _ (hT.o4.exts.grw g2)).mono ?_; clear c4; rintro e w3 ⟨rfl, g3⟩)
    | (go_at_call 164; refine (c3.out _ _ (hT.o5.exts.grw (g2.then g3))).mono ?_; clear c3; rintro e w4 ⟨v4, rfl, ho4, g4⟩; have ho3' := ho3.kept (g3.then g4); have hsz := (g2.then (g3.then g4)).size)
    | (at_builtin; refine wpList_app rfl _ _ rfl _ _ _ L1 L2 rfl ho3' rfl ho4.exts hlen.out (by omega) ?_; intro v9 w9 ho9 hgrow))
  refine bodyPost_ret (v := .tuple #[v9, .bool true]) (by simp [results, Tryz.results117, go_sem]) rfl ⟨v9, rfl, ho9.exts, grw_own ((hW.then hT.g).then (g2.then (g3.then g4))) ho3' (by have := (hW.then hT.g).size; omega) hgrow⟩
end Go.Proofs.YtbfdnfkflnajlaaGreat

/-! alloc: permitted, Mark. -/
namespace Go.Proofs.YtbfdnfkflnajlaaGreat
open Go.RowKit
open Ext hiding One

/-- extents whose blocks do not matter. -/
def zl (l : List Ext) : List Ext := l.map fun x => ⟨0, x.len, x.slot⟩
theorem zl_occ (l : List Ext) (i : Nat) : occL (zl l) i = occL l i := by
  induction l with
  | nil => rfl
  | cons x l ih => simp only [zl, List.map_cons, occL] at *; rw [ih]
theorem zl_in {n : Nat} {l : List Ext} (h : inL1 n l) : inL1 n (zl l) := by
  intro y hy
  obtain ⟨x, hx, rfl⟩ := List.mem_map.1 hy
  exact h x hx
theorem flat_setAt {a b : List Ext} {x : Ext} : (flat extC (a ++ x :: b)).set (a.length * 3) (.int .i64 0) = flat extC (a ++ ⟨0, x.len, x.slot⟩ :: b) := by
  rw [flat_append, flat_append, flat_cons, flat_cons, List.set_append_right _ _ (by rw [flat_length extC_len]; omega), flat_length extC_len]
  simp [extC]
/-- runs and the word 'yes' come back. -/
def RetPm (N : Nat) (f : Nat → Int) (w : World) (e : Ending) (w' : World) : Prop := ∃ v out, e = .returned (.tuple #[v, .bool true]) ∧ Exts w' v out ∧ Grw w w' ∧ inL1 N out ∧ (∀ i, occL out i = f i) ∧ ∀ x ∈ out, x.at_ = 0
set_option maxRecDepth 100000 in
set_option maxHeartbeats 2000000 in
theorem apermitted_any {N : Nat} {l : List Ext} {v sm : Value} {ml : List Ext} {W0 : World} (h : Exts W0 v l) (hm0 : Exts W0 sm ml) (hl : inL1 N l) (h1 : ∀ i, occL l i ≤ 1) (hN : N ≤ 65536) :
    Calls Tryz.prog 156 #[amapV N sm, v] W0 (RetPm N (occL l) W0) := by
  have hl6 : inL1 65536 l := fun x hx => by have := hl x hx; omega
  have hln := len_in hl6 h1
  have hsum := sumL_le hl h1
  obtain ⟨Am, capm, rfl, -, -, -⟩ := hm0.shape
  generalize ml.length = MLn
  have hW := Grw.alloc W0 (.cells #[.int .i64 N, .slice Am MLn capm] 129)
  have hbm := alloc_blk W0 (.cells #[.int .i64 N, .slice Am MLn capm] 129)
  have c1 := fun (W : World) (hg : Grw W0 W) => clone_ext_any (h.grw hg) (by omega)
  have c3 := fun (W : World) (v : Value) (hv : Exts W v (zl l)) => (runs_any hv (fun x hx => by have := zl_in hl x hx; obtain ⟨y, _, rfl⟩ := List.mem_map.1 hx; unfold Ext.One; simp only at this ⊢; omega) (by unfold zl; rw [List.length_map]; omega)).mono fun e w' h => RetRuns.occ (zl_in hl) h
  have hind : ∀ i, ind (occL (zl l) i) = occL l i := by
    intro i
    rw [zl_occ]
    have := h1 i
    have := (occL_bound l i).1
    rcases ind_cases (occL l i) with h | h <;> omega
  rw [show (fun i => ind (occL (zl l) i)) = occL l from funext hind] at c3
  have c4 := fun (W : World) (v : Value) (out : List Ext) (hv : Exts W v out) (hi : inL1 N out) (ho : ∀ i, occL out i = occL l i) => (asize_any hv hi (by rw [sumL_occ hi, sumTo_congr (g := occL l) (fun i _ => ho i), ← sumL_occ hl]; omega)).mono (R' := fun e w' => e = .returned (.int .i64 (sumL l)) ∧ Grw W w') (by
    rintro e w' ⟨rfl, hg⟩
    refine ⟨?_, hg⟩
    rw [sumL_occ hi, sumTo_congr (g := occL l) (fun i _ => ho i), ← sumL_occ hl])
  obtain ⟨A, cap, rfl, hc, hm, hx⟩ := h.shape
  unfold maxLen at hm
  replace hx : Aside (∀ i x, l[i]? = some x → ∃ b off, A = some ⟨b, off, none⟩ ∧ W0.cell? ⟨b, off + i * 3, none⟩ = some (.int .i64 x.at_) ∧ W0.cell? ⟨b, off + i * 3 + 1, none⟩ = some (.int .i64 x.len) ∧ W0.cell? ⟨b, off + i * 3 + 2, none⟩ = some (.int .i64 x.slot)) := hx
  replace hl : Aside (inL1 N l) := hl
  replace c3 : Aside (∀ (W : World) (v : Value) (hv : Exts W v (zl l)), _) := c3
  replace c4 : Aside (∀ (W : World) (v : Value) (out : List Ext) (hv : Exts W v out) (hi : inL1 N out) (ho : ∀ i, occL out i = occL l i), _) := c4
  have hex := h
  clear h1 hsum hl6 hind h hm0
  obtain ⟨Bm, hBm⟩ : ∃ Bm, W0.heap.size = Bm := ⟨_, rfl⟩
  rw [hBm] at hbm
  go_enter Tryz.func156, Tryz.ntmps156
  go_wp2
  go_loopg [13] l.length (fun g i wr => ∃ k : Nat, k ≤ l.length ∧ g = l.length - k ∧ i = .int .i64 k ∧ Grw (W0.alloc (.cells #[.int .i64 N, .slice Am MLn capm] 129)) wr)
  case atStart => exact ⟨0, Nat.zero_le _, rfl, rfl, Grw.self _⟩
  case round =>
    obtain ⟨k, hk, rfl, rfl, hg⟩ := hrel
    by_cases hlt : k < l.length
    · obtain ⟨x, hlx⟩ : ∃ x, l[k]? = some x := ⟨l[k], List.getElem?_eq_getElem hlt⟩
      obtain ⟨b2, off, rfl, p0, p1, p2⟩ := hx.out k x hlx
      replace p0 := Grw.cell p0 _ (hW.then hg)
      replace p1 := Grw.cell p1 _ (hW.then hg)
      replace p2 := Grw.cell p2 _ (hW.then hg)
      obtain ⟨x1, x2, x3⟩ := hl.out x (List.mem_of_getElem? hlx)
      have k1 : ¬ x.len < 1 := by omega
      have k2 : ¬ x.slot < 0 := by omega
      have k3 : ¬ x.slot > N := by omega
      have k4 : ¬ x.len > N - x.slot := by omega
      have hw := wrapI (n := N - x.slot) (by omega) (by omega)
      have v2 := (Grw.alloc wr (.cells #[.int .i64 x.at_, .int .i64 x.len, .int .i64 x.slot] 105)).blk (hg.blk hbm)
      have u20 := blk_cell v2 0
      simp only [List.getElem?_toArray, List.getElem?_cons_zero] at u20
      clear hlx hx
      go_wp2
      go_roundg (l.length - (k + 1))
      case measure => omega
      case rel => exact ⟨k + 1, by omega, rfl, rfl, hg.alc _⟩
    · obtain rfl : k = l.length := by omega
      clear hx
      go_wp2_with (go_at_call 159; refine (c1 _ (hW.then hg)).mono ?_; clear c1; rintro e w1 ⟨v1, rfl, ho1, g1⟩; obtain ⟨A1, cap1, rfl, hc1⟩ := own_cap ho1)
      obtain ⟨Bs, hBs⟩ : ∃ Bs, wr.heap.size = Bs := ⟨_, rfl⟩
      rw [hBs] at ho1
      go_loopg [47] l.length (fun g i wx => ∃ k : Nat, k ≤ l.length ∧ g = l.length - k ∧ i = .int .i64 k ∧ OwnE wx Bs (.slice A1 l.length cap1) (zl (l.take k) ++ l.drop k) ∧ Grw wr wx)
      case atStart => exact ⟨0, Nat.zero_le _, rfl, rfl, by simpa [zl] using ho1, g1⟩
      case round =>
        clear ho1 g1
        obtain ⟨k, hk, rfl, rfl, ho, hgx⟩ := hrel
        have hzlen : (zl (l.take k) ++ l.drop k).length = l.length := by unfold zl; simp; omega
        by_cases hlt2 : k < l.length
        · obtain ⟨x, hlx⟩ : ∃ x, l[k]? = some x := ⟨l[k], List.getElem?_eq_getElem hlt2⟩
          have hd : l.drop k = x :: l.drop (k + 1) := by rw [List.drop_eq_getElem_cons hlt2, show l[k] = x from (List.getElem?_eq_some_iff.1 hlx).2]
          have hz : (zl (l.take k)).length = k := by unfold zl; simp; omega
          have hs : wr.ownsRow Bs 105 3 (.slice A1 l.length cap1) l.length (flat extC (zl (l.take k) ++ l.drop k)) := by
            have := ho
            unfold OwnE at this
            rwa [hzlen] at this
          obtain ⟨gx, capx, e, hbx, hltx⟩ := World.ownsRow.form hs (by omega)
          injection e with e1 _ e2
          subst e1; subst e2
          have hcx := World.ownsRow.cellAt hs (k * 3) (by omega)
          have hfx := World.ownsRow.frozenAt hs (k * 3)
          have hvx : (flat extC (zl (l.take k) ++ l.drop k))[k * 3]? = some (.int .i64 x.at_) := by
            have := flat_get extC_len (zl (l.take k) ++ l.drop k) k x 0 (by rw [List.getElem?_append_right (by omega), hz, Nat.sub_self, hd]; rfl) (by omega)
            simpa [extC] using this
          rw [hvx] at hcx
          obtain ⟨s1, s2⟩ := hs.stored (k * 3) (.int .i64 0)
          have hset : (flat extC (zl (l.take k) ++ l.drop k)).set (k * 3) (.int .i64 0) = flat extC (zl (l.take (k + 1)) ++ l.drop (k + 1)) := by
            have e := flat_setAt (a := zl (l.take k)) (b := l.drop (k + 1)) (x := x)
            rw [hz] at e
            rw [hd, e]
            congr 1
            unfold zl
            rw [List.take_succ_eq_append_getElem hlt2, show l[k] = x from (List.getElem?_eq_some_iff.1 hlx).2]
            simp
          rw [hset] at s1
          have hnext : Aside (OwnE (wr.setCell ⟨gx, k * 3, none⟩ (.int .i64 0)) Bs (.slice (some ⟨gx, 0, none⟩) l.length cap1) (zl (l.take (k + 1)) ++ l.drop (k + 1))) := (by
            unfold OwnE
            rw [show (zl (l.take (k + 1)) ++ l.drop (k + 1)).length = l.length by unfold zl; simp; omega]
            exact s1 : OwnE _ _ _ _)
          have hgn := hgx.setOwn (b := gx) (o := k * 3) (by omega) (.int .i64 0)
          clear hs hset s1 s2 hvx hz hd hlx ho hex
          go_wp2
          go_roundg (l.length - (k + 1))
          case measure => omega
          case rel => exact ⟨k + 1, by omega, rfl, rfl, hnext.out, hgn⟩
        · obtain rfl : k = l.length := by omega
          have hez := ho.exts
          rw [List.take_length, List.drop_length, List.append_nil] at hez
          clear ho hzlen
          have hexr := hex.grw (hW.then (hg.then hgx))
          go_wp2_with (first
            | (go_at_call 160; refine (c3.out _ _ hez).mono ?_; clear c3; rintro e w5 ⟨v5, out, rfl, ho5, g5, hin5, hat5, hocc5⟩; have c4a := c4.out _ v5 out ho5.exts hin5 hocc5)
            | (go_at_call 158; with_reducible refine c4a.mono ?_; clear c4a; rintro e w6 ⟨rfl, g6⟩; have c4b := c4.out _ _ l (hexr.grw (g5.then g6)) hl.out (fun i => rfl))
            | (go_at_call 158; with_reducible refine c4b.mono ?_; clear c4b; rintro e w7 ⟨rfl, g7⟩))
          refine bodyPost_ret (v := .tuple #[v5, .bool true]) (by simp [results, Tryz.results156, go_sem]) rfl ⟨v5, out, rfl, ho5.exts.grw (g6.then g7), (hW.then (hg.then hgx)).then (g5.then (g6.then g7)), hin5, hocc5, hat5⟩
end Go.Proofs.YtbfdnfkflnajlaaGreat

/-! alloc: Mark. -/
namespace Go.Proofs.YtbfdnfkflnajlaaGreat
open Go.RowKit
open Ext hiding One

/-- the result variable of a map is written: a list elsewhere stays. -/
theorem Exts.setMap {w : World} {s c u v0 v1 : Value} {l : List Ext} {b : Nat} {t : TypeId} {fr : Nat × Nat} (hb : w.heap[b]? = some (.cells #[c, u] t fr)) (hu : ∀ n, u ≠ .int .i64 n) (h : Exts w s l) :
    Exts ((w.setCell ⟨b, 0, none⟩ v0).setCell ⟨b, 1, none⟩ v1) s l := by
  refine ⟨h.1, h.2.imp id ?_⟩
  rintro ⟨b', off, cap, hv, h1, h2, h3⟩
  refine ⟨b', off, cap, hv, h1, h2, fun j y hy => ?_⟩
  have hc := h3 j y hy
  have hne : b' ≠ b := by
    rintro rfl
    match l, h3, hy with
    | [], _, hy => simp [flat] at hy
    | x :: l, h3, hy =>
      have e1 := h3 1 (.int .i64 x.len) (by rw [flat_cons]; rfl)
      rw [blk_cell hb] at e1
      match off, e1 with
      | 0, e1 =>
        simp only [Nat.zero_add, List.getElem?_toArray, List.getElem?_cons_succ, List.getElem?_cons_zero, Option.some.injEq] at e1
        exact hu _ e1
      | k + 1, e1 =>
        rw [Array.getElem?_eq_none (by simp)] at e1
        cases e1
  rw [← hc]
  rw [World.cell?_of_block (w := w.setCell ⟨b, 0, none⟩ v0) (Below.heap_setCell _ _ _ _ hne)]
  exact World.cell?_of_block (w := w) (Below.heap_setCell _ _ _ _ hne)
/-- a map that lacks some slots comes back. -/
def RetMk (N : Nat) (f : Nat → Int) (w : World) (e : Ending) (w' : World) : Prop := ∃ s rest, e = .returned (.tuple #[amapV N s, .int .i64 0]) ∧ Exts w' s rest ∧ Grw w w' ∧ inL1 65536 rest ∧ ∀ i, occL rest i = f i
set_option maxRecDepth 100000 in
set_option maxHeartbeats 2000000 in
theorem amark_any {N : Nat} {R l : List Ext} {v sm : Value} {W0 : World} (hm0 : Exts W0 sm R) (h : Exts W0 v l) (hR : inL1 65536 R) (hR1 : ∀ i, occL R i ≤ 1) (hl : inL1 N l) (hle : ∀ i, occL l i ≤ occL R i) (hN : N ≤ 65536) :
    Calls Tryz.prog 111 #[amapV N sm, v] W0 (RetMk N (fun i => occL R i - occL l i) W0) := by
  have h1 : ∀ i, occL l i ≤ 1 := fun i => by have := hR1 i; have := hle i; omega
  have hW : ∀ s, Grw W0 (W0.alloc (.cells #[.int .i64 N, s] 129)) := fun s => Grw.alloc W0 _
  have hbm := alloc_blk W0 (.cells #[.int .i64 N, sm] 129)
  have hb4 := alloc_blk (W0.alloc (.cells #[.int .i64 N, sm] 129)) (.cells #[.int .i64 0, .slice none 0 0] 129)
  replace hbm := (Grw.alloc (W0.alloc (.cells #[.int .i64 N, sm] 129)) (.cells #[.int .i64 0, .slice none 0 0] 129)).blk hbm
  replace hW := (hW sm).alc (.cells #[.int .i64 0, .slice none 0 0] 129)
  have hl6 : inL1 65536 l := fun x hx => by have := hl x hx; omega
  have c1 := apermitted_any (h.grw hW) (hm0.grw hW) hl h1 hN
  have c2 := fun (W : World) (u : Value) (out : List Ext) (hg : Grw W0 W) (hu : Exts W u out) (hi : inL1 N out) (ho : ∀ i, occL out i = occL l i) =>
    without_any (hm0.grw hg) hu hR hR1 (fun x hx => by have := hi x hx; omega) (by have := len_in (l := out) (fun x hx => by have := hi x hx; omega) (fun i => by rw [ho]; exact h1 i); omega)
  have hocc : ∀ out, inL1 N out → (∀ i, occL out i = occL l i) → inL1 65536 (withoutL R out) ∧ ∀ i, occL (withoutL R out) i = occL R i - occL l i := fun out hi ho => ⟨withoutL_in hR, fun i => by
    rw [withoutL_occ hR (fun x hx => by have := hi x hx; omega), ho]
    have := hR1 i
    have := hle i
    have := (occL_bound l i).1
    split <;> omega⟩
  have hsR := sumL_le hR hR1
  have hsl := sumL_le hl6 h1
  have hsz : ∀ out, inL1 N out → (∀ i, occL out i = occL l i) → 0 ≤ sumL (withoutL R out) ∧ 0 ≤ sumL out ∧ sumL (withoutL R out) + sumL out = sumL R := fun out hi ho => by
    have hi6 : inL1 65536 out := fun x hx => by have := hi x hx; omega
    refine ⟨sumL_in (hocc out hi ho).1, sumL_in hi, ?_⟩
    rw [sumL_occ (hocc out hi ho).1, sumL_occ hi6, sumL_occ hR, ← sumTo_add]
    exact sumTo_congr fun i _ => by rw [(hocc out hi ho).2, ho]; omega
  obtain ⟨Am, capm, rfl, -, -, -⟩ := hm0.shape
  replace hocc : Aside (∀ out, inL1 N out → (∀ i, occL out i = occL l i) → inL1 65536 (withoutL R out) ∧ ∀ i, occL (withoutL R out) i = occL R i - occL l i) := hocc
  replace hsz : Aside (∀ out, inL1 N out → (∀ i, occL out i = occL l i) → 0 ≤ sumL (withoutL R out) ∧ 0 ≤ sumL out ∧ sumL (withoutL R out) + sumL out = sumL R) := hsz
  replace c2 : Aside (∀ (W : World) (u : Value) (out : List Ext) (hg : Grw W0 W) (hu : Exts W u out) (hi : inL1 N out) (ho : ∀ i, occL out i = occL l i), _) := c2
  replace hR : Aside (inL1 65536 R) := hR
  obtain ⟨A9, cap9, rfl, -, -, -⟩ := h.shape
  clear h1 hR1 hl hle h hl6
  go_enter Tryz.func111, Tryz.ntmps111
  go_wp2_with (first
    | (go_at_call 156; refine c1.mono ?_; clear c1; rintro e w1 ⟨v1, out, rfl, ho1, g1, hin1, hoc1, -⟩; have u0 := fun (B : World) (hB : Grw w1 B) => blk_cell (hB.blk (g1.blk hbm)) 0; have u1 := fun (B : World) (hB : Grw w1 B) => blk_cell (hB.blk (g1.blk hbm)) 1; simp only [List.getElem?_toArray, List.getElem?_cons_zero, List.getElem?_cons_succ] at u0 u1; have gs1 := Grw.self w1; obtain ⟨A8, cap8, rfl, -, -, -⟩ := ho1.shape)
    | (go_at_call 157; refine (c2.out _ _ _ (hW.then g1) ho1 hin1 hoc1).mono ?_; clear c2; rintro e w2 ⟨v2, rfl, ho2, g2⟩))
  obtain ⟨i2, o2⟩ := hocc.out out hin1 hoc1
  obtain ⟨z1, z2, z3⟩ := hsz.out out hin1 hoc1
  have c3 := fun (W : World) (hg : Grw w2 W) => asize_any (ho2.grw hg) i2 (by omega)
  have c4 := fun (W : World) (hg : Grw w2 W) => asize_any (ho1.grw (g2.then hg)) hin1 (by omega)
  have c5 := fun (W : World) (hg : Grw w2 W) => asize_any (hm0.grw (hW.then (g1.then (g2.then hg)))) hR.out (by omega)
  obtain ⟨S, hS⟩ : ∃ S, sumL (withoutL R out) = S := ⟨_, rfl⟩
  obtain ⟨T, hT⟩ : ∃ T, sumL out = T := ⟨_, rfl⟩
  obtain ⟨U, hU⟩ : ∃ U, sumL R = U := ⟨_, rfl⟩
  rw [hS] at z1 z3 c3
  rw [hT] at z2 z3 c4
  rw [hU] at z3 c5 hsR
  obtain rfl : U = S + T := z3.symm
  have hw : IntKind.i64.wrap (S + T) = S + T := wrapI (by omega) (by omega)
  have v0 := fun (B : World) (hB : Grw w2 B) => u0 B (g2.then hB)
  have v1 := fun (B : World) (hB : Grw w2 B) => u1 B (g2.then hB)
  have hb5 := g2.blk (g1.blk hb4)
  simp only [World.size_alloc] at hb5
  obtain ⟨Q2, hQ2⟩ : ∃ Q2, withoutL R out = Q2 := ⟨_, rfl⟩
  rw [hQ2] at ho2 i2 o2
  obtain ⟨A7, cap7, rfl, -, -, -⟩ := ho2.shape
  have gW := hW.then (g1.then g2)
  have gsz := (g1.then g2).size
  simp only [World.size_alloc] at gsz
  clear hS hT hU u0 u1 hbm hb4 z3 hocc hsz hR hin1 hoc1 ho1 hm0 hQ2 gs1
  have gs := Grw.self w2
  refine gw_region [(0, true), (2, true), (5, true), (6, true), (1, false), (3, false), (4, true), (7, false), (8, true)] (by kernel_rfl) (by kernel_rfl) (fun c a d v w1 h => by cases d <;> exact h) ?_
  intro A hA
  iterate 4 (apply gw_q hA rfl rfl; intro pp; go_simp; rfl; go_simp)
  have k0 := Grw.drw w2
  refine gw_e hA rfl rfl (fun K hK => ?_)
  go_wp2_with (go_at_call 158; refine (c3 _ k0).mono ?_; clear c3; rintro e w3 ⟨rfl, g3⟩)
  have k3 := k0.then g3
  refine ⟨k3, ?_⟩
  refine gw_e hA rfl rfl (fun K hK => ?_)
  go_wp2_with (go_at_call 158; refine (c4 _ k3).mono ?_; clear c4; rintro e w4 ⟨rfl, g4⟩)
  have k4 := k3.then g4
  refine ⟨k4, ?_⟩
  iterate 1 (apply gw_q hA rfl rfl; intro pp; go_simp; rfl; go_simp)
  refine gw_e hA rfl rfl (fun K hK => ?_)
  go_wp2_with (go_at_call 158; refine (c5 _ k4).mono ?_; clear c5; rintro e w5 ⟨rfl, g5⟩)
  have k5 := k4.then g5
  refine ⟨k5, ?_⟩
  iterate 1 (apply gw_q hA rfl rfl; intro pp; go_simp; rfl; go_simp)
  refine pi_nil ?_
  have hb6 := k5.blk hb5
  have p0 := blk_cell hb6 0
  have p1 := blk_cell hb6 1
  have p2 := blk_free hb6 0
  have p3 := blk_free hb6 1
  simp only [List.getElem?_toArray, List.getElem?_cons_zero, List.getElem?_cons_succ] at p0 p1
  have ho6 := ho2.grw k5
  have g6 := gW.then k5
  go_wp2
  obtain ⟨q5, g5⟩ := set_two (w0 := W0) (.int .i64 N) (.slice A7 Q2.length cap7) hb6 g6 (by omega) rfl
  have q0 := q5 0 _ rfl
  have q1 := q5 1 _ rfl
  refine bodyPost_ret (v := .tuple #[amapV N (.slice A7 Q2.length cap7), .int .i64 0]) (by simp [results, Tryz.results111, go_sem, q0, q1]) rfl ⟨_, Q2, rfl, Exts.setMap hb6 (fun n => by simp) ho6, g5, i2, o2⟩
end Go.Proofs.YtbfdnfkflnajlaaGreat
