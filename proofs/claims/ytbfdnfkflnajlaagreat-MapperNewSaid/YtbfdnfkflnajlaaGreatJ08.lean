/-
  extent.Valid, push, Join. extent.push: an extent at the end of a row of the call's own. extent.Join of a valid list. Tree: Cut.
-/
import Derived.Test.YtbfdnfkflnajlaaGreatJ07
import Derived.LoopTactic
import Derived.Deep.LoopGhost
import Derived.Deep.AppendLies
import Derived.RegionTactic
import Derived.BigRegion
import Derived.ChangeAlike
set_option linter.unusedVariables false
set_option linter.unusedSimpArgs false
/-! extent.Valid, push, Join. -/
namespace Go.Proofs.YtbfdnfkflnajlaaGreat
open Go.RowKit
open Ext hiding One

/-- the first k of a list are valid. -/
def okTo (l : List Ext) (k : Nat) : Prop := VL (l.take k)
theorem okTo_zero (l : List Ext) : okTo l 0 := by simpa [okTo] using VL.nil
theorem okTo_all (l : List Ext) : okTo l l.length ↔ VL l := by simp [okTo]
theorem VL_snoc {l : List Ext} {x : Ext} : VL (l ++ [x]) ↔ VL l ∧ x.One ∧ ∀ z, l.getLast? = some z → z.sep x := by
  constructor
  · intro h
    refine ⟨⟨fun y hy => h.1 y (by simp [hy]), (List.pairwise_append.1 h.2).1⟩, h.1 x (by simp), fun z hz => ?_⟩
    exact (List.pairwise_append.1 h.2).2.2 z (List.mem_of_getLast? hz) x (by simp)
  · rintro ⟨h1, h2, h3⟩
    refine ⟨fun y hy => ?_, List.pairwise_append.2 ⟨h1.2, by simp, fun a ha b hb => ?_⟩⟩
    · rcases List.mem_append.1 hy with h | h
      · exact h1.1 y h
      · simp at h; subst h; exact h2
    · simp at hb; subst hb
      rcases List.eq_nil_or_concat l with rfl | ⟨m, z, rfl⟩
      · simp at ha
      · rw [List.concat_eq_append] at *
        have hz := h3 z (by simp)
        rcases List.mem_append.1 ha with h | h
        · have h4 := (List.pairwise_append.1 h1.2).2.2 a h z (by simp)
          have h5 := h1.1 z (by simp)
          unfold Ext.sep at *; unfold Ext.One at h5; omega
        · simp at h; subst h; exact hz
theorem okTo_succ {l : List Ext} {k : Nat} {x : Ext} (hx : l[k]? = some x) : okTo l (k + 1) ↔ okTo l k ∧ x.One ∧ (∀ z, 0 < k → l[k - 1]? = some z → z.sep x) := by
  unfold okTo
  have hk : k < l.length := (List.getElem?_eq_some_iff.1 hx).1
  rw [List.take_succ_eq_append_getElem hk, VL_snoc, show l[k] = x from (List.getElem?_eq_some_iff.1 hx).2]
  refine and_congr_right fun _ => and_congr_right fun _ => ?_
  constructor
  · intro h z h0 hz
    refine h z ?_
    rw [List.getLast?_take, if_neg (by omega), hz]; rfl
  · intro h z hz
    rw [List.getLast?_take] at hz
    split at hz
    · cases hz
    · have hk1 : k - 1 < l.length := by omega
      rw [List.getElem?_eq_getElem hk1] at hz
      simp at hz
      exact h z (by omega) (by rw [List.getElem?_eq_getElem hk1, hz])
theorem okTo_le {l : List Ext} {k : Nat} (hk : k ≤ l.length) (h : VL l) : okTo l k := by
  refine ⟨fun x hx => h.1 x (List.mem_of_mem_take hx), h.2.sublist (List.take_sublist _ _)⟩
theorem okTo_no {l : List Ext} {k : Nat} (h : ¬ okTo l (k + 1)) : ¬ VL l := fun hv => h ⟨fun x hx => hv.1 x (List.mem_of_mem_take hx), hv.2.sublist (List.take_sublist _ _)⟩
noncomputable instance (l : List Ext) : Decidable (VL l) := Classical.propDecidable _

set_option maxRecDepth 100000 in
set_option maxHeartbeats 1000000 in
theorem valid_any {l : List Ext} {v : Value} (W0 : World) (h : Exts W0 v l) :
    Calls Tryz.prog 120 #[v] W0 fun e w' => e = .returned (.bool (decide (VL l))) ∧ Grw W0 w' := by
  obtain ⟨A, cap, rfl, hc, hm, hx⟩ := h.shape
  clear h
  unfold maxLen at hm
  go_enter Tryz.func120, Tryz.ntmps120
  go_wp2
  go_loopg [7] l.length (fun g i wr => ∃ k : Nat, k ≤ l.length ∧ g = l.length - k ∧ i = .int .i64 k ∧ okTo l k ∧ Grw W0 wr)
  case atStart => exact ⟨0, Nat.zero_le _, rfl, rfl, okTo_zero l, Grw.self _⟩
  case round =>
    obtain ⟨k, hk, rfl, rfl, hok, hg⟩ := hrel
    by_cases hlt : k < l.length
    · obtain ⟨x, hlx⟩ : ∃ x, l[k]? = some x := ⟨l[k], List.getElem?_eq_getElem hlt⟩
      obtain ⟨b, off, rfl, p0, p1, p2⟩ := hx k x hlx
      replace p0 := Grw.cell p0 _ hg
      replace p1 := Grw.cell p1 _ hg
      replace p2 := Grw.cell p2 _ hg
      have hxs : Aside (∀ i y, l[i]? = some y → ∃ b' off', some (⟨b, off, none⟩ : Addr) = some ⟨b', off', none⟩ ∧ W0.cell? ⟨b', off' + i * 3, none⟩ = some (.int .i64 y.at_) ∧ W0.cell? ⟨b', off' + i * 3 + 1, none⟩ = some (.int .i64 y.len) ∧ W0.cell? ⟨b', off' + i * 3 + 2, none⟩ = some (.int .i64 y.slot)) := hx
      clear hx
      have hlx' : Aside (l[k]? = some x) := hlx
      clear hlx
      go_wp2
      have hW := hg.alc (.cells #[.int .i64 x.at_, .int .i64 x.len, .int .i64 x.slot] 105)
      obtain ⟨d0, d1, d2⟩ := ext_cells (alloc_blk wr (.cells #[.int .i64 x.at_, .int .i64 x.len, .int .i64 x.slot] 105))
      generalize wr.alloc (.cells #[.int .i64 x.at_, .int .i64 x.len, .int .i64 x.slot] 105) = W at hW d0 d1 d2 ⊢
      clear p0 p1 p2
      by_cases hp : x.One
      · have hf : decide x.One = true := decide_eq_true hp
        rcases Nat.eq_zero_or_pos k with rfl | hk0
        · refine gw_region [(0, true), (1, false), (2, true), (3, true), (4, true), (5, true), (6, true), (7, true), (8, true), (9, true), (10, true), (11, true), (12, true), (13, true), (14, false), (15, true), (16, true), (17, true)] (by kernel_rfl) (by kernel_rfl) (fun c a d v w1 h => by cases d <;> exact h) ?_
          intro A hA
          iterate 1 (apply gw_q hA rfl rfl; intro pp; go_simp; rfl; go_simp)
          refine gw_e hA rfl rfl (fun K hK => ?_)
          go_wp2_with (go_at_call 165; refine (proper_any x _).mono ?_; rintro e w1 ⟨rfl, hg1⟩)
          have hgW := (Grw.drw W).then hg1
          refine ⟨hgW, ?_⟩
          iterate 2 (apply gw_q hA rfl rfl; intro pp; go_simp; rfl; go_simp)
          iterate 3 (apply gw_qg hA rfl (by first | (rw [hA.out]; done) | (rw [hA.out]; rfl)); intro pp; go_simp; rfl; go_simp)
          iterate 9 (refine gw_g hA rfl (by first | (rw [hA.out]; done) | (rw [hA.out]; rfl)) (by with_reducible first | assumption | exact Grw.drw _) ?_; go_simp)
          iterate 1 (apply gw_qg hA rfl (by first | (rw [hA.out]; done) | (rw [hA.out]; rfl)); intro pp; go_simp; rfl; go_simp)
          iterate 1 (apply gw_q hA rfl rfl; intro pp; go_simp; rfl; go_simp)
          refine pi_nil ?_
          go_wp2
          go_roundg (l.length - 1)
          case measure => omega
          case rel => exact ⟨1, by omega, rfl, rfl, (okTo_succ hlx'.out).2 ⟨hok, hp, fun z h0 => by omega⟩, hW.then hgW⟩
        · obtain ⟨j, rfl⟩ : ∃ j, k = j + 1 := ⟨k - 1, by omega⟩
          obtain ⟨z, hz⟩ : ∃ z, l[j]? = some z := ⟨l[j], List.getElem?_eq_getElem (by omega)⟩
          obtain ⟨b2, off2, hb2, p0, p1, p2⟩ := hxs.out j z hz
          have hj1 : j < l.length := by omega
          have hj2 : (j : Int) ≤ 9223372036854775807 := by omega
          have hj3 : IntKind.i64.wrap (j : Int) = j := by simp only [IntKind.wrap, IntKind.bits, IntKind.signed]; simp; omega
          replace hz : Aside (l[j]? = some z) := hz
          injection hb2 with hb2
          injection hb2 with hb2 hb3
          subst hb2 hb3
          have hd : decide (0 < ((j + 1 : Nat) : Int)) = true := decide_eq_true (by omega)
          refine gw_region [(0, true), (1, false), (2, true), (3, true), (4, true), (5, true), (6, true), (7, true), (8, true), (9, true), (10, true), (11, true), (12, true), (13, true), (14, false), (15, true), (16, true), (17, true)] (by kernel_rfl) (by kernel_rfl) (fun c a d v w1 h => by cases d <;> exact h) ?_
          intro A hA
          iterate 1 (apply gw_q hA rfl rfl; intro pp; go_simp; rfl; go_simp)
          refine gw_e hA rfl rfl (fun K hK => ?_)
          go_wp2_with (go_at_call 165; refine (proper_any x _).mono ?_; rintro e w1 ⟨rfl, hg1⟩)
          have hgW := (Grw.drw W).then hg1
          refine ⟨hgW, ?_⟩
          iterate 2 (apply gw_q hA rfl rfl; intro pp; go_simp; rfl; go_simp)
          iterate 3 (apply gw_qg hA rfl (by first | (rw [hA.out]; done) | (rw [hA.out]; rfl)); intro pp; go_simp; rfl; go_simp)
          replace p0 : ∀ B, Grw W B → B.cell? _ = _ := fun B hB => Grw.cell p0 B (hW.then hB)
          replace p1 : ∀ B, Grw W B → B.cell? _ = _ := fun B hB => Grw.cell p1 B (hW.then hB)
          replace p2 : ∀ B, Grw W B → B.cell? _ = _ := fun B hB => Grw.cell p2 B (hW.then hB)
          iterate 7 (apply gw_qg hA rfl (by first | (rw [hA.out]; done) | (rw [hA.out]; rfl)); intro pp; go_simp; rfl; go_simp)
          refine gw_eg hA rfl (by first | (rw [hA.out]; done) | (rw [hA.out]; rfl)) (fun K hK => ?_)
          go_wp2_with (go_at_call 166; refine (end_any z _ (One.small (hok.1 z (by rw [List.mem_take_iff_getElem]; exact ⟨j, by omega, (List.getElem?_eq_some_iff.1 hz.out).2⟩)))).mono ?_; rintro e w2 ⟨rfl, hg2⟩)
          replace hgW := hgW.then hg2
          refine ⟨hgW, ?_⟩
          by_cases hs : z.at_ + z.len ≤ x.at_
          · iterate 2 (apply gw_qg hA rfl (by first | (rw [hA.out]; done) | (rw [hA.out]; rfl)); intro pp; go_simp; rfl; go_simp)
            iterate 1 (apply gw_q hA rfl rfl; intro pp; go_simp; rfl; go_simp)
            refine pi_nil ?_
            go_wp2
            go_roundg (l.length - (j + 1 + 1))
            case measure => omega
            case rel => exact ⟨j + 1 + 1, by omega, rfl, rfl, (okTo_succ hlx'.out).2 ⟨hok, hp, fun y _ hy => by rw [Nat.add_sub_cancel, hz.out] at hy; injection hy with hy; subst hy; exact hs⟩, hW.then hgW⟩
          · replace hs : x.at_ < z.at_ + z.len := by omega
            iterate 2 (apply gw_qg hA rfl (by first | (rw [hA.out]; done) | (rw [hA.out]; rfl)); intro pp; go_simp; rfl; go_simp)
            iterate 1 (apply gw_q hA rfl rfl; intro pp; go_simp; rfl; go_simp)
            refine pi_nil ?_
            go_wp2
            go_ret
            have : ¬ VL l := okTo_no (k := j + 1) (fun h => by have := ((okTo_succ hlx'.out).1 h).2.2 z (by omega) hz.out; unfold Ext.sep at this; omega)
            exact ⟨by rw [decide_eq_false this]; rfl, hW.then hgW⟩
      · have hf : decide x.One = false := decide_eq_false hp
        refine gw_region [(0, true), (1, false), (2, true), (3, true), (4, true), (5, true), (6, true), (7, true), (8, true), (9, true), (10, true), (11, true), (12, true), (13, true), (14, false), (15, true), (16, true), (17, true)] (by kernel_rfl) (by kernel_rfl) (fun c a d v w1 h => by cases d <;> exact h) ?_
        intro A hA
        iterate 1 (apply gw_q hA rfl rfl; intro pp; go_simp; rfl; go_simp)
        refine gw_e hA rfl rfl (fun K hK => ?_)
        go_wp2_with (go_at_call 165; refine (proper_any x _).mono ?_; rintro e w1 ⟨rfl, hg1⟩)
        have hgW := (Grw.drw W).then hg1
        refine ⟨hgW, ?_⟩
        iterate 2 (apply gw_q hA rfl rfl; intro pp; go_simp; rfl; go_simp)
        iterate 13 (refine gw_g hA rfl (by first | (rw [hA.out]; done) | (rw [hA.out]; rfl)) (by with_reducible first | assumption | exact Grw.drw _) ?_; go_simp)
        iterate 1 (apply gw_q hA rfl rfl; intro pp; go_simp; rfl; go_simp)
        refine pi_nil ?_
        go_wp2
        go_ret
        have : ¬ VL l := okTo_no (k := k) (fun h => hp ((okTo_succ hlx'.out).1 h).2.1)
        exact ⟨by rw [decide_eq_false this]; rfl, hW.then hgW⟩
    · obtain rfl : k = l.length := by omega
      replace hx := True.intro
      go_wp2
      go_ret
      exact ⟨by rw [decide_eq_true ((okTo_all l).1 hok)]; rfl, hg⟩
end Go.Proofs.YtbfdnfkflnajlaaGreat

/-! extent.push: an extent at the end of a row of the call's own. -/
namespace Go.Proofs.YtbfdnfkflnajlaaGreat
open Go.RowKit
open Ext hiding One

theorem grownBy_then {a b c : World} {row : Option Nat} (h : a.grownBy b row) (k : b.grownBy c row) : a.grownBy c row :=
  ⟨k.1.trans h.1, k.2.trans h.2, k.3.trans h.3, Nat.le_trans h.4 k.4, fun i hi hx => (k.5 i (Nat.lt_of_lt_of_le hi h.4) hx).trans (h.5 i hi hx)⟩
theorem wrapI {n : Int} (h1 : -9223372036854775808 ≤ n) (h2 : n ≤ 9223372036854775807) : IntKind.i64.wrap n = n := by simp only [IntKind.wrap, IntKind.bits, IntKind.signed]; simp; omega
theorem flat_set {l : List Ext} {z : Ext} {n : Int} : (flat extC (l ++ [z])).set (l.length * 3 + 1) (.int .i64 n) = flat extC (l ++ [⟨z.at_, n, z.slot⟩]) := by
  rw [flat_snoc, flat_snoc, List.set_append_right _ _ (by rw [flat_length extC_len]; omega), flat_length extC_len]
  simp [extC]
theorem OwnE.shape {w : World} {base : Nat} {v : Value} {l : List Ext} {z : Ext} (h : OwnE w base v (l ++ [z])) : ∃ g cap, v = .slice (some ⟨g, 0, none⟩) (l.length + 1) cap ∧ base ≤ g ∧ g < w.heap.size ∧
    w.cell? ⟨g, l.length * 3, none⟩ = some (.int .i64 z.at_) ∧ w.cell? ⟨g, l.length * 3 + 1, none⟩ = some (.int .i64 z.len) ∧ w.cell? ⟨g, l.length * 3 + 2, none⟩ = some (.int .i64 z.slot) ∧ (∀ o, w.frozen? ⟨g, o, none⟩ = false) := by
  obtain ⟨g, cap, rfl, hb, hlt⟩ := World.ownsRow.form h (by simp)
  have hz : (l ++ [z])[l.length]? = some z := by simp
  refine ⟨g, cap, by simp, hb, hlt, ?_, ?_, ?_, fun o => World.ownsRow.frozenAt h o⟩
  all_goals rw [World.ownsRow.cellAt h _ (by simp only [List.length_append, List.length_cons, List.length_nil]; omega)]
  · have := flat_get extC_len _ _ _ 0 hz (by omega); simpa [extC] using this
  · have := flat_get extC_len _ _ _ 1 hz (by omega); simpa [extC] using this
  · have := flat_get extC_len _ _ _ 2 hz (by omega); simpa [extC] using this

def RetPush (base : Nat) (v : Value) (l : List Ext) (W : World) (e : Ending) (w' : World) : Prop := ∃ v', e = .returned v' ∧ OwnE w' base v' l ∧ W.grownBy w' v.ownBlock
theorem news1 (W : World) (x : Ext) : ∀ j u, (extC x)[j]? = some u → (W.alloc (.cells #[.int .i64 x.at_, .int .i64 x.len, .int .i64 x.slot] 105)).cell? ((⟨W.heap.size, 0, none⟩ : Addr).add j) = some u := by
  have := World.news_of_block (w := W.alloc (.cells #[.int .i64 x.at_, .int .i64 x.len, .int .i64 x.slot] 105)) (cs := #[.int .i64 x.at_, .int .i64 x.len, .int .i64 x.slot]) (t := 105) (fr := (0, 0)) (heap_alloc_new _ _)
  simpa [extC] using this

set_option maxRecDepth 100000 in
set_option maxHeartbeats 1000000 in
theorem push_any {base : Nat} {l : List Ext} {v : Value} {x : Ext} (W0 : World) (h : OwnE W0 base v l) (hbase : base ≤ W0.heap.size) (hn : l.length + 1 ≤ 1000000) (hl : ∀ z ∈ l, z.One) (hx : Small x) :
    Calls Tryz.prog 121 #[v, extV x] W0 (RetPush base v (pushL l x) W0) := by
  obtain ⟨i0, hi, hz0, hz1, hz2⟩ := info_parts infoE
  obtain ⟨sx1, sx2, sx3, sx4, sx5, sx6⟩ := hx
  have hW := Grw.alloc W0 (.cells #[.int .i64 x.at_, .int .i64 x.len, .int .i64 x.slot] 105)
  obtain ⟨d0, d1, d2⟩ := ext_cells (alloc_blk W0 (.cells #[.int .i64 x.at_, .int .i64 x.len, .int .i64 x.slot] 105))
  have hln : Aside (l.length + 1 ≤ 1000000) := hn
  have hln : Aside (l.length + 1 ≤ 1000000) := hn
  rcases List.eq_nil_or_concat l with rfl | ⟨m, z, rfl⟩
  · generalize hL : pushL [] x = Lres
    replace hL : Aside ([] ++ [x] = Lres) := hL
    obtain ⟨A, cap, rfl, hc1, hc2, _⟩ := h.exts.shape
    unfold extV
    go_enter Tryz.func121, Tryz.ntmps121
    go_wp2
    generalize hWd : W0.alloc (.cells #[.int .i64 x.at_, .int .i64 x.len, .int .i64 x.slot] 105) = W at hW d0 d1 d2 ⊢
    refine gw_region [(0, true), (1, true), (2, true), (3, true), (4, true), (5, true), (6, true), (8, true), (9, true), (7, false), (10, true), (11, true), (12, true), (13, true), (14, true), (15, true), (16, true), (17, true), (18, true), (19, true), (20, true), (21, true), (22, true), (23, true), (24, true), (25, true), (26, true), (27, true)] (by kernel_rfl) (by kernel_rfl) (fun c a d v w1 h => by cases d <;> exact h) ?_
    intro A hA
    iterate 3 (apply gw_q hA rfl rfl; intro pp; go_simp; rfl; go_simp)
    iterate 8 (refine gw_g hA rfl (by first | (rw [hA.out]; done) | (rw [hA.out]; rfl)) (by with_reducible first | assumption | exact Grw.drw _) ?_; go_simp)
    iterate 2 (apply gw_q hA rfl rfl; intro pp; go_simp; rfl; go_simp)
    iterate 14 (refine gw_g hA rfl (by first | (rw [hA.out]; done) | (rw [hA.out]; rfl)) (by with_reducible first | assumption | exact Grw.drw _) ?_; go_simp)
    iterate 1 (apply gw_q hA rfl rfl; intro pp; go_simp; rfl; go_simp)
    refine pi_nil ?_
    
    have hV := Grw.drw W
    generalize W.drew = V at hV ⊢
    obtain ⟨b0, b1, b2⟩ : V.cell? ⟨W0.heap.size, 0, none⟩ = some (.int .i64 x.at_) ∧ V.cell? ⟨W0.heap.size, 1, none⟩ = some (.int .i64 x.len) ∧ V.cell? ⟨W0.heap.size, 2, none⟩ = some (.int .i64 x.slot) := ⟨d0 V hV, d1 V hV, d2 V hV⟩
    have hVown : OwnE V base _ _ := h.kept (hW.then hV)
    have hVs := (hW.then hV).size
    clear d0 d1 d2
    go_wp2_with (at_builtin; refine wpList_append_lies _ rfl _ _ 40 rfl base 105 i0 _ 3 24 Tryz.underlying40 hi hz0 hz1 hz2 rfl (by decide) _ ([] : List Ext).length (flat extC []) rfl (World.ownsRow.alloc hVown _) ⟨V.heap.size, 0, none⟩ 1 1 (extC x) rfl rfl (news1 V x) (ext_one x) (by decide) (by have := hln.out; unfold maxLen; omega) (by have := hln.out; omega) (by simp; omega) (V.heap.size + 1) (by simp) ?_; intro g9 cap9 w9 hown9 hgrow hat hgl)
    go_ret
    refine ⟨_, rfl, ?_, ?_⟩
    · rw [← hL.out]
      have := hown9
      unfold OwnE
      rw [flat_snoc, List.length_append]
      simpa using this
    · exact grownBy_then (((hW.then hV).by _)) (grownBy_then (World.grownBy_alloc _ _ _) hgrow)
  · rw [List.concat_eq_append] at *
    generalize hL : pushL (m ++ [z]) x = Lres
    replace hL : Aside (pushL (m ++ [z]) x = Lres) := hL
    simp only [List.length_append, List.length_cons, List.length_nil] at hn
    obtain ⟨g, cap, rfl, hb1, hb2, p0, p1, p2, pf⟩ := h.shape
    have hsm : Small z := One.small (hl z (by simp))
    obtain ⟨sz1, sz2, sz3, sz4, sz5, sz6⟩ := One.small (hl z (by simp))
    replace p0 : ∀ B, Grw _ B → B.cell? _ = _ := fun B hB => Grw.cell p0 B (hW.then hB)
    replace p1 : ∀ B, Grw _ B → B.cell? _ = _ := fun B hB => Grw.cell p1 B (hW.then hB)
    replace p2 : ∀ B, Grw _ B → B.cell? _ = _ := fun B hB => Grw.cell p2 B (hW.then hB)
    have hm1 : (m.length : Int) ≤ 9223372036854775807 := by omega
    have hm2 : (m.length : Int) < m.length + 1 := by omega
    have e3 : IntKind.i64.wrap (z.slot + z.len) = z.slot + z.len := wrapI (by omega) (by omega)
    have e4 : IntKind.i64.wrap (z.len + x.len) = z.len + x.len := wrapI (by omega) (by omega)
    unfold extV
    by_cases c1 : z.at_ + z.len = x.at_
    · have e1 : (z.at_ + z.len == x.at_) = true := by simp [c1]
      replace c1 : Aside (z.at_ + z.len = x.at_) := c1
      by_cases c2 : z.slot + z.len = x.slot
      · have e2 : (z.slot + z.len == x.slot) = true := by simp [c2]
        replace c2 : Aside (z.slot + z.len = x.slot) := c2
        replace hL : Aside (m ++ [⟨z.at_, z.len + x.len, z.slot⟩] = Lres) := by rw [← hL.out, pushL_snoc, if_pos (fol_iff.2 ⟨c1.out, c2.out⟩)]; rfl
        go_enter Tryz.func121, Tryz.ntmps121
        go_wp2
        generalize hWd : W0.alloc (.cells #[.int .i64 x.at_, .int .i64 x.len, .int .i64 x.slot] 105) = W at hW d0 d1 d2 p0 p1 p2 ⊢
        refine gw_region [(0, true), (1, true), (2, true), (3, true), (4, true), (5, true), (6, true), (8, true), (9, true), (7, false), (10, true), (11, true), (12, true), (13, true), (14, true), (15, true), (16, true), (17, true), (18, true), (19, true), (20, true), (21, true), (22, true), (23, true), (24, true), (25, true), (26, true), (27, true)] (by kernel_rfl) (by kernel_rfl) (fun c a d v w1 h => by cases d <;> exact h) ?_
        intro A hA
        iterate 3 (apply gw_q hA rfl rfl; intro pp; go_simp; rfl; go_simp)
        iterate 6 (apply gw_qg hA rfl (by first | (rw [hA.out]; done) | (rw [hA.out]; rfl)); intro pp; go_simp; rfl; go_simp)
        refine gw_eg hA rfl (by first | (rw [hA.out]; done) | (rw [hA.out]; rfl)) (fun K hK => ?_)
        go_wp2_with (go_at_call 166; refine (end_any z _ hsm).mono ?_; rintro e w1 ⟨rfl, hg1⟩)
        have hgW := (Grw.drw W).then hg1
        refine ⟨hgW, ?_⟩
        iterate 1 (apply gw_qg hA rfl (by first | (rw [hA.out]; done) | (rw [hA.out]; rfl)); intro pp; go_simp; rfl; go_simp)
        iterate 2 (apply gw_q hA rfl rfl; intro pp; go_simp; rfl; go_simp)
        iterate 14 (apply gw_qg hA rfl (by first | (rw [hA.out]; done) | (rw [hA.out]; rfl)); intro pp; go_simp; rfl; go_simp)
        iterate 1 (apply gw_q hA rfl rfl; intro pp; go_simp; rfl; go_simp)
        refine pi_nil ?_
        
        go_wp2
        have hV1 := hgW
        have hown1 : OwnE w1 base _ _ := h.kept (hW.then hV1)
        have pf1 : w1.frozen? ⟨g, m.length * 3 + 1, none⟩ = false := by
          obtain ⟨_, _, he, _, _, _, _, _, h9⟩ := hown1.shape
          injection he with he
          injection he with he
          injection he with he
          subst he
          exact h9 _
        have q1 := p1 w1 hV1
        have q2 := d1 w1 hV1
        have hne : g ≠ W0.heap.size := by omega
        clear p0 p1 p2 d0 d1 d2 pf
        go_region
        go_wp2
        go_ret
        have hs : w1.ownsRow base 105 3 (.slice (some ⟨g, 0, none⟩) (m.length + 1) cap) (m.length + 1) (flat extC (m ++ [z])) := by
          have := hown1
          unfold OwnE at this
          rw [List.length_append] at this
          exact this
        obtain ⟨k1, k2⟩ := hs.stored (m.length * 3 + 1) (.int .i64 (z.len + x.len))
        rw [flat_set] at k1
        refine ⟨_, rfl, ?_, ?_⟩
        · rw [← hL.out]
          unfold OwnE
          rw [List.length_append]
          exact k1
        · exact grownBy_then ((hW.then hV1).by _) (grownBy_then k2 ⟨rfl, rfl, rfl, Nat.le_refl _, fun _ _ _ => rfl⟩)
      · have e2 : (z.slot + z.len == x.slot) = false := by simp [c2]
        replace hL : Aside ((m ++ [z]) ++ [x] = Lres) := by rw [← hL.out, pushL_snoc, if_neg (by rw [fol_iff]; exact fun h => c2 h.2)]; simp [Aside]
        replace c2 : Aside (¬ z.slot + z.len = x.slot) := c2
        go_enter Tryz.func121, Tryz.ntmps121
        go_wp2
        generalize hWd : W0.alloc (.cells #[.int .i64 x.at_, .int .i64 x.len, .int .i64 x.slot] 105) = W at hW d0 d1 d2 p0 p1 p2 ⊢
        refine gw_region [(0, true), (1, true), (2, true), (3, true), (4, true), (5, true), (6, true), (8, true), (9, true), (7, false), (10, true), (11, true), (12, true), (13, true), (14, true), (15, true), (16, true), (17, true), (18, true), (19, true), (20, true), (21, true), (22, true), (23, true), (24, true), (25, true), (26, true), (27, true)] (by kernel_rfl) (by kernel_rfl) (fun c a d v w1 h => by cases d <;> exact h) ?_
        intro A hA
        iterate 3 (apply gw_q hA rfl rfl; intro pp; go_simp; rfl; go_simp)
        iterate 6 (apply gw_qg hA rfl (by first | (rw [hA.out]; done) | (rw [hA.out]; rfl)); intro pp; go_simp; rfl; go_simp)
        refine gw_eg hA rfl (by first | (rw [hA.out]; done) | (rw [hA.out]; rfl)) (fun K hK => ?_)
        go_wp2_with (go_at_call 166; refine (end_any z _ hsm).mono ?_; rintro e w1 ⟨rfl, hg1⟩)
        have hgW := (Grw.drw W).then hg1
        refine ⟨hgW, ?_⟩
        iterate 1 (apply gw_qg hA rfl (by first | (rw [hA.out]; done) | (rw [hA.out]; rfl)); intro pp; go_simp; rfl; go_simp)
        iterate 2 (apply gw_q hA rfl rfl; intro pp; go_simp; rfl; go_simp)
        iterate 14 (apply gw_qg hA rfl (by first | (rw [hA.out]; done) | (rw [hA.out]; rfl)); intro pp; go_simp; rfl; go_simp)
        iterate 1 (apply gw_q hA rfl rfl; intro pp; go_simp; rfl; go_simp)
        refine pi_nil ?_
        
        have hV := hgW
        generalize w1 = V at hV ⊢
        obtain ⟨b0, b1, b2⟩ : V.cell? ⟨W0.heap.size, 0, none⟩ = some (.int .i64 x.at_) ∧ V.cell? ⟨W0.heap.size, 1, none⟩ = some (.int .i64 x.len) ∧ V.cell? ⟨W0.heap.size, 2, none⟩ = some (.int .i64 x.slot) := ⟨d0 V hV, d1 V hV, d2 V hV⟩
        have hVown : OwnE V base _ _ := h.kept (hW.then hV)
        have hVs := (hW.then hV).size
        clear d0 d1 d2
        go_wp2_with (at_builtin; refine wpList_append_lies _ rfl _ _ 40 rfl base 105 i0 _ 3 24 Tryz.underlying40 hi hz0 hz1 hz2 rfl (by decide) _ (m ++ [z]).length (flat extC (m ++ [z])) rfl (World.ownsRow.alloc hVown _) ⟨V.heap.size, 0, none⟩ 1 1 (extC x) rfl rfl (news1 V x) (ext_one x) (by decide) (by have := hln.out; unfold maxLen; omega) (by have := hln.out; omega) (by simp; omega) (V.heap.size + 1) (by simp) ?_; intro g9 cap9 w9 hown9 hgrow hat hgl)
        go_ret
        refine ⟨_, rfl, ?_, ?_⟩
        · rw [← hL.out]
          have := hown9
          unfold OwnE
          rw [flat_snoc, List.length_append]
          simpa using this
        · exact grownBy_then (((hW.then hV).by _)) (grownBy_then (World.grownBy_alloc _ _ _) hgrow)
    · have e1 : (z.at_ + z.len == x.at_) = false := by simp [c1]
      replace hL : Aside ((m ++ [z]) ++ [x] = Lres) := by rw [← hL.out, pushL_snoc, if_neg (by rw [fol_iff]; exact fun h => c1 h.1)]; simp [Aside]
      replace c1 : Aside (¬ z.at_ + z.len = x.at_) := c1
      go_enter Tryz.func121, Tryz.ntmps121
      go_wp2
      generalize hWd : W0.alloc (.cells #[.int .i64 x.at_, .int .i64 x.len, .int .i64 x.slot] 105) = W at hW d0 d1 d2 p0 p1 p2 ⊢
      refine gw_region [(0, true), (1, true), (2, true), (3, true), (4, true), (5, true), (6, true), (8, true), (9, true), (7, false), (10, true), (11, true), (12, true), (13, true), (14, true), (15, true), (16, true), (17, true), (18, true), (19, true), (20, true), (21, true), (22, true), (23, true), (24, true), (25, true), (26, true), (27, true)] (by kernel_rfl) (by kernel_rfl) (fun c a d v w1 h => by cases d <;> exact h) ?_
      intro A hA
      iterate 3 (apply gw_q hA rfl rfl; intro pp; go_simp; rfl; go_simp)
      iterate 6 (apply gw_qg hA rfl (by first | (rw [hA.out]; done) | (rw [hA.out]; rfl)); intro pp; go_simp; rfl; go_simp)
      refine gw_eg hA rfl (by first | (rw [hA.out]; done) | (rw [hA.out]; rfl)) (fun K hK => ?_)
      go_wp2_with (go_at_call 166; refine (end_any z _ hsm).mono ?_; rintro e w1 ⟨rfl, hg1⟩)
      have hgW := (Grw.drw W).then hg1
      refine ⟨hgW, ?_⟩
      iterate 1 (apply gw_qg hA rfl (by first | (rw [hA.out]; done) | (rw [hA.out]; rfl)); intro pp; go_simp; rfl; go_simp)
      iterate 2 (apply gw_q hA rfl rfl; intro pp; go_simp; rfl; go_simp)
      iterate 14 (refine gw_g hA rfl (by first | (rw [hA.out]; done) | (rw [hA.out]; rfl)) (by with_reducible first | assumption | exact Grw.drw _) ?_; go_simp)
      iterate 1 (apply gw_q hA rfl rfl; intro pp; go_simp; rfl; go_simp)
      refine pi_nil ?_
      
      have hV := hgW
      generalize w1 = V at hV ⊢
      obtain ⟨b0, b1, b2⟩ : V.cell? ⟨W0.heap.size, 0, none⟩ = some (.int .i64 x.at_) ∧ V.cell? ⟨W0.heap.size, 1, none⟩ = some (.int .i64 x.len) ∧ V.cell? ⟨W0.heap.size, 2, none⟩ = some (.int .i64 x.slot) := ⟨d0 V hV, d1 V hV, d2 V hV⟩
      have hVown : OwnE V base _ _ := h.kept (hW.then hV)
      have hVs := (hW.then hV).size
      clear d0 d1 d2
      go_wp2_with (at_builtin; refine wpList_append_lies _ rfl _ _ 40 rfl base 105 i0 _ 3 24 Tryz.underlying40 hi hz0 hz1 hz2 rfl (by decide) _ (m ++ [z]).length (flat extC (m ++ [z])) rfl (World.ownsRow.alloc hVown _) ⟨V.heap.size, 0, none⟩ 1 1 (extC x) rfl rfl (news1 V x) (ext_one x) (by decide) (by have := hln.out; unfold maxLen; omega) (by have := hln.out; omega) (by simp; omega) (V.heap.size + 1) (by simp) ?_; intro g9 cap9 w9 hown9 hgrow hat hgl)
      go_ret
      refine ⟨_, rfl, ?_, ?_⟩
      · rw [← hL.out]
        have := hown9
        unfold OwnE
        rw [flat_snoc, List.length_append]
        simpa using this
      · exact grownBy_then (((hW.then hV).by _)) (grownBy_then (World.grownBy_alloc _ _ _) hgrow)
end Go.Proofs.YtbfdnfkflnajlaaGreat

/-! extent.Join of a valid list. -/
namespace Go.Proofs.YtbfdnfkflnajlaaGreat
open Go.RowKit
open Ext hiding One

theorem push_VL {C B : List Ext} {x : Ext} (h : VL (C ++ x :: B)) : VL (pushL C x ++ B) := by
  rcases List.eq_nil_or_concat C with rfl | ⟨m, z, rfl⟩
  · simpa [pushL_nil] using h
  · rw [List.concat_eq_append] at *
    rw [pushL_snoc]
    split
    · rename_i hf
      rw [fol_iff] at hf
      have h1 : VL (m ++ z :: (x :: B)) := by simpa using h
      obtain ⟨v1, v2, oz, s1, s2⟩ := VL_mid h1
      have ox := v2.1 x (by simp)
      have hb := (List.pairwise_cons.1 v2.2)
      rw [List.append_assoc, List.singleton_append]
      refine ⟨fun y hy => ?_, List.pairwise_append.2 ⟨v1.2, List.pairwise_cons.2 ⟨fun b hb' => ?_, hb.2⟩, fun a ha b hb' => ?_⟩⟩
      · rcases List.mem_append.1 hy with h | h
        · exact v1.1 y h
        · rcases List.mem_cons.1 h with rfl | h
          · unfold Ext.One at *; simp only; omega
          · exact v2.1 y (by simp [h])
      · have := hb.1 b hb'
        unfold Ext.sep at *; simp only; omega
      · rcases List.mem_cons.1 hb' with rfl | hb'
        · have := s1 a ha; unfold Ext.sep at *; simpa using this
        · have h4 := s1 a ha
          have h5 := s2 b (by simp [hb'])
          unfold Ext.sep Ext.One at *; omega
    · simpa using h
theorem fold_VL : ∀ (B C : List Ext), VL (C ++ B) → VL (B.foldl pushL C)
  | [], C, h => by simpa using h
  | x :: B, C, h => fold_VL B (pushL C x) (push_VL h)
theorem join_VL {l : List Ext} (h : VL l) : VL (joinL l) := fold_VL l [] (by simpa using h)
theorem VL.take {l : List Ext} (h : VL l) (k : Nat) : VL (l.take k) := ⟨fun x hx => h.1 x (List.mem_of_mem_take hx), h.2.sublist (List.take_sublist _ _)⟩
theorem join_take {l : List Ext} {k : Nat} {x : Ext} (hx : l[k]? = some x) : joinL (l.take (k + 1)) = pushL (joinL (l.take k)) x := by
  have hk : k < l.length := (List.getElem?_eq_some_iff.1 hx).1
  unfold joinL
  rw [List.take_succ_eq_append_getElem hk, List.foldl_append, show l[k] = x from (List.getElem?_eq_some_iff.1 hx).2]
  rfl

theorem VL.len {l : List Ext} (h : VL l) : l.length ≤ 65536 := by
  have := (VL_sum (a := 0) (b := 65536) h (fun x hx => by have := h.1 x hx; unfold Ext.One at this; omega) (by omega)).2
  omega
def RetJoin (l : List Ext) (W0 : World) (e : Ending) (w' : World) : Prop := ∃ v', e = .returned (.tuple #[v', .int .i64 0]) ∧ OwnE w' W0.heap.size v' l ∧ Grw W0 w'
set_option maxRecDepth 100000 in
set_option maxHeartbeats 1000000 in
theorem join_list_any {l : List Ext} {v : Value} (W0 : World) (h : Exts W0 v l) (hv : VL l) :
    Calls Tryz.prog 64 #[v] W0 (RetJoin (joinL l) W0) := by
  have hval := valid_any W0 h
  rw [decide_eq_true hv] at hval
  obtain ⟨A, cap, rfl, hc, hm, hx⟩ := h.shape
  clear h
  have hlen := (VL.fit hv).1
  unfold maxLen at hm
  go_enter Tryz.func64, Tryz.ntmps64
  go_wp2_with (go_at_call 120; refine hval.mono ?_; clear hval; rintro e w1 ⟨rfl, hg1⟩)
  go_loopg [4, 12] l.length (fun g s4 i wr => ∃ k : Nat, k ≤ l.length ∧ g = l.length - k ∧ i = .int .i64 k ∧ OwnE wr W0.heap.size s4 (joinL (l.take k)) ∧ Grw W0 wr)
  case atStart => exact ⟨0, Nat.zero_le _, rfl, rfl, OwnE.nil _ _, hg1⟩
  case round =>
    obtain ⟨k, hk, rfl, rfl, hown, hg⟩ := hrel
    by_cases hlt : k < l.length
    · obtain ⟨x, hlx⟩ : ∃ x, l[k]? = some x := ⟨l[k], List.getElem?_eq_getElem hlt⟩
      obtain ⟨b, off, rfl, p0, p1, p2⟩ := hx k x hlx
      replace p0 := Grw.cell p0 _ hg
      replace p1 := Grw.cell p1 _ hg
      replace p2 := Grw.cell p2 _ hg
      have hvk := join_VL (hv.take k)
      have hnk := (VL.fit hvk).1
      have hsx : Small x := One.small (hv.1 x (List.mem_of_getElem? hlx))
      have hpush := push_any (x := x) (wr.alloc (.cells #[.int .i64 x.at_, .int .i64 x.len, .int .i64 x.slot] 105)) (hown.kept (Grw.alloc _ _)) (Nat.le_trans hg.size (Grw.alloc _ _).size) (by have := hvk.len; omega) hvk.1 hsx
      rw [← join_take hlx] at hpush
      clear hvk hnk hsx hx hv
      replace hlx : Aside (l[k]? = some x) := hlx
      go_wp2_with (go_at_call 121; refine hpush.mono ?_; clear hpush; rintro e w2 ⟨v', rfl, hown2, hgb⟩)
      go_roundg (l.length - (k + 1))
      case measure => omega
      case rel => 
        refine ⟨k + 1, by omega, rfl, rfl, hown2, ?_⟩
        exact show Below _ _ _ from Below.grown (hg.alc _) hgb (hg.alc _).size (fun j hj => own_base' hown j hj)
    · obtain rfl : k = l.length := by omega
      replace hx := True.intro
      rw [List.take_length] at hown
      go_wp2
      go_ret2
      exact ⟨_, rfl, hown, hg⟩
end Go.Proofs.YtbfdnfkflnajlaaGreat

/-! Tree: Cut. -/
namespace Go.Proofs.YtbfdnfkflnajlaaGreat
open Go.RowKit
open Ext hiding One

abbrev treeV (p : Option Addr) : Value := .agg #[.pointer p]
theorem set_one {w0 w : World} {b : Nat} {u : Value} {t : TypeId} (hb : w.heap[b]? = some (.cells #[u] t (0, 0))) (hn : w0.heap.size ≤ b) (hg : Grw w0 w) (v : Value) :
    (w.setCell ⟨b, 0, none⟩ v).heap[b]? = some (.cells #[v] t (0, 0)) ∧ Grw w0 (w.setCell ⟨b, 0, none⟩ v) :=
  ⟨by simpa using setCell_blk hb 0 v, show Below _ _ _ from Below.setCell hg (p := ⟨b, 0, none⟩) hn v⟩
/-- a tree, a list, an error. -/
def RetTLE (base : Nat) (t : Tr) (l : List Ext) (n : Int) (w : World) (e : Ending) (w' : World) : Prop := ∃ p v, e = .returned (.tuple #[treeV p, v, .int .i64 n]) ∧ IsT w' p t ∧ OwnE w' base v l ∧ Grw w w'

theorem alloc2_blk (w : World) (o1 o2 : Obj) : ((w.alloc o1).alloc o2).heap[w.heap.size + 1]? = some o2 := by
  have := alloc_blk (w.alloc o1) o2
  rwa [show (w.alloc o1).heap.size = w.heap.size + 1 by simp] at this
theorem VL.sums {l : List Ext} (h : VL l) : sumL l ≤ 65536 ∧ (l.length : Int) ≤ 65536 := by
  have := VL_sum (a := 0) (b := 65536) h (fun x hx => by have := h.1 x hx; unfold Ext.One at this; omega) (by omega)
  omega
theorem fit_app {a b : List Ext} (ha : VL a) (hb : VL b) : fitL (a ++ b) := by
  have h1 := ha.sums
  have h2 := hb.sums
  refine ⟨by rw [List.length_append]; omega, by rw [sumL_append]; omega, fun x hx => ?_⟩
  rcases List.mem_append.1 hx with h | h
  · have := ha.1 x h; unfold Ext.One at this; omega
  · have := hb.1 x h; unfold Ext.One at this; omega
set_option maxRecDepth 100000 in
set_option maxHeartbeats 1000000 in
theorem cut_bad {p : Option Addr} {a n : Int} (W0 : World) (h : withinB a n 65536 = false) :
    Calls Tryz.prog 122 #[treeV p, .int .i64 a, .int .i64 n] W0 (RetTLE W0.heap.size .nil [] 1 W0) := by
  have hc := xproper_any a n ((W0.alloc (.cells #[.pointer p] 168)).alloc (.cells #[.pointer none] 168))
  rw [h] at hc
  go_enter Tryz.func122, Tryz.ntmps122
  go_wp2_with (go_at_call 167; refine hc.mono ?_; clear hc; rintro e w1 ⟨rfl, rfl⟩)
  refine bodyPost_ret (v := .tuple #[treeV none, .slice none 0 0, .int .i64 1]) (by simp [results, Tryz.results122, go_sem]) rfl ⟨_, _, rfl, rfl, OwnE.nil _ _, (Grw.alloc _ _).alc _⟩
theorem withinB_iff {a n s : Int} : withinB a n s = true ↔ 0 ≤ a ∧ 0 ≤ n ∧ a ≤ s ∧ n ≤ s - a := by simp [withinB]
set_option maxRecDepth 100000 in
set_option maxHeartbeats 1000000 in
theorem cut_zero {t : Tr} {p : Option Addr} {a : Int} {W0 : World} (ht : IsT W0 p t) (h : withinB a 0 65536 = true) :
    Calls Tryz.prog 122 #[treeV p, .int .i64 a, .int .i64 0] W0 (RetTLE W0.heap.size t [] 0 W0) := by
  have hc := xproper_any a 0 ((W0.alloc (.cells #[.pointer p] 168)).alloc (.cells #[.pointer none] 168))
  rw [h] at hc
  have ht2 := ht.grw ((Grw.alloc W0 (.cells #[.pointer p] 168)).alc (.cells #[.pointer p] 168))
  go_enter Tryz.func122, Tryz.ntmps122
  go_wp2_with (go_at_call 167; refine hc.mono ?_; clear hc; rintro e w1 ⟨rfl, rfl⟩)
  refine bodyPost_ret (v := .tuple #[treeV p, .slice none 0 0, .int .i64 0]) (by simp [results, Tryz.results122, go_sem]) rfl ⟨_, _, rfl, ht2, OwnE.nil _ _, (Grw.alloc _ _).alc _⟩
set_option maxRecDepth 100000 in
set_option maxHeartbeats 1000000 in
theorem cut_some {t : Tr} {p : Option Addr} {a n : Int} {W0 : World} (ht : IsT W0 p t) (hv : VL t.toL) (h : withinB a n 65536 = true) (hn : n ≠ 0) :
    Calls Tryz.prog 122 #[treeV p, .int .i64 a, .int .i64 n] W0 (RetTLE W0.heap.size (Tr.concat (Tr.split a t).1 (Tr.split (a + n) (Tr.split a t).2).2) (Tr.split (a + n) (Tr.split a t).2).1.toL 0 W0) := by
  have hc := xproper_any a n ((W0.alloc (.cells #[.pointer p] 168)).alloc (.cells #[.pointer none] 168))
  rw [h] at hc
  obtain ⟨h1, h2, h3, h4⟩ := withinB_iff.1 h
  have hv1 : VL (Tr.split a t).1.toL := by rw [(split_parts hv a).1]; exact parts_VL hv _ _
  have hv2 : VL (Tr.split a t).2.toL := by rw [(split_parts hv a).2]; exact parts_VL hv _ _
  have hv3 : VL (Tr.split (a + n) (Tr.split a t).2).1.toL := by rw [(split_parts hv2 _).1]; exact parts_VL hv2 _ _
  have hv4 : VL (Tr.split (a + n) (Tr.split a t).2).2.toL := by rw [(split_parts hv2 _).2]; exact parts_VL hv2 _ _
  have hff : fitL ((Tr.split a t).1.toL ++ (Tr.split (a + n) (Tr.split a t).2).2.toL) := fit_app hv1 hv4
  have hW := (Grw.alloc W0 (.cells #[.pointer p] 168)).alc (.cells #[.pointer none] 168)
  have hb1 := alloc2_blk W0 (.cells #[.pointer p] 168) (.cells #[.pointer none] 168)
  have e1 : (n == 0) = false := by simp [hn]
  have c1 := split_any a (ht.grw hW) hv
  clear ht
  generalize (Tr.split a t).1 = A1 at *
  generalize (Tr.split a t).2 = A2 at *
  have c2 := fun (q : Option Addr) (W : World) (hq : IsT W q A2) => split_any (a + n) hq hv2
  generalize (Tr.split (a + n) A2).1 = M at *
  generalize (Tr.split (a + n) A2).2 = B at *
  go_enter Tryz.func122, Tryz.ntmps122
  go_wp2_with (first | (go_at_call 167; refine hc.mono ?_; clear hc; rintro e w1 ⟨rfl, rfl⟩) | (go_at_call 168; refine c1.mono ?_; clear c1; rintro e w1 ⟨p1, p2, rfl, t1, t2, g1⟩))
  refine (c2 p2 w1 t2).mono ?_
  clear c2
  rintro e w2 ⟨p3, p4, rfl, t3, t4, g2⟩
  have gw2 := g1.then g2
  have c3 := concat_any (t1.grw g2) t4 hff
  go_wp2_with (go_at_call 169; refine c3.mono ?_; clear c3; rintro e w3 ⟨p5, rfl, t5, g3⟩)
  have gw3 := gw2.then g3
  refine (list_any (t3.grw g3) (VL.fit hv3)).mono ?_
  rintro e w4 ⟨v, rfl, hown, g4⟩
  have gw4 := gw3.then g4
  have hb4 := gw4.blk hb1
  obtain ⟨v0, f0⟩ := var_facts hb4
  have t6 := t5.grw g4
  go_wp2
  obtain ⟨k1, k2⟩ := set_one (w0 := W0) hb4 (by simp) (hW.then gw4) (.pointer p5)
  have q0 := blk_cell k1 0
  simp only [List.getElem?_toArray, List.getElem?_cons_zero] at q0
  have ho2 := ownsRow_setCell_below hown (a := ⟨W0.heap.size + 1, 0, none⟩) (by have := gw3.size; simp at this ⊢; omega) (.pointer p5)
  have t7 := IsT.set hb4 (by decide) 0 (.pointer p5) t6
  refine bodyPost_ret (v := .tuple #[treeV p5, v, .int .i64 0]) (by simp [results, Tryz.results122, go_sem, q0]) rfl ⟨_, _, rfl, t7, own_low ho2 (by have := (hW.then gw3).size; omega), k2⟩
/-- what 'Cut' leaves. -/
theorem cut_any {t : Tr} {p : Option Addr} {a n : Int} {W0 : World} (ht : IsT W0 p t) (hv : NF t.toL) (h : withinB a n 65536 = true) :
    Calls Tryz.prog 122 #[treeV p, .int .i64 a, .int .i64 n] W0 (RetTLE W0.heap.size (cutT t a n) (partsL t.toL a (a + n)) 0 W0) := by
  obtain ⟨h1, h2, h3, h4⟩ := withinB_iff.1 h
  by_cases hn : n = 0
  · subst hn
    rw [cutT, if_pos rfl, show partsL t.toL a (a + 0) = [] from List.eq_nil_iff_forall_not_mem.2 (fun y hy => by have := parts_range hy; omega)]
    exact cut_zero ht h
  · rw [cutT, if_neg hn, ← (split2_parts hv.vl h1 h2 (by omega)).1]
    exact cut_some ht hv.vl h hn
end Go.Proofs.YtbfdnfkflnajlaaGreat
