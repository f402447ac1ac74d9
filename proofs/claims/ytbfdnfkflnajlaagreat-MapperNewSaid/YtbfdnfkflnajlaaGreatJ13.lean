/-
  extent.Runs of valid extents. refcount: Zero. refcount: Drop, where no count falls below nought.
-/
import Derived.Test.YtbfdnfkflnajlaaGreatJ11
import Derived.Test.YtbfdnfkflnajlaaGreatJ12
set_option linter.unusedVariables false
set_option linter.unusedSimpArgs false
/-! extent.Runs of valid extents. -/
namespace Go.Proofs.YtbfdnfkflnajlaaGreat
open Go.RowKit
open Ext hiding One

theorem runs_take {l : List Ext} {k : Nat} {x : Ext} (hx : l[k]? = some x) : runsL (l.take (k + 1)) = runStep (runsL (l.take k)) x := by
  have hk : k < l.length := (List.getElem?_eq_some_iff.1 hx).1
  rw [List.take_succ_eq_append_getElem hk, runsL_snoc, show l[k] = x from (List.getElem?_eq_some_iff.1 hx).2]
theorem runStep_len (out : List Ext) (x : Ext) : (runStep out x).length ≤ out.length + 1 := by
  rcases List.eq_nil_or_concat out with rfl | ⟨A, z, rfl⟩
  · simp [runStep]
  · rw [List.concat_eq_append, runStep_snoc]
    split <;> simp
theorem runs_len (l : List Ext) : ∀ k, k ≤ l.length → (runsL (l.take k)).length ≤ k
  | 0, _ => by simp [runsL]
  | k + 1, h => by
    rw [runs_take (List.getElem?_eq_getElem (by omega))]
    have := runs_len l k (by omega)
    have := runStep_len (runsL (l.take k)) l[k]
    omega
theorem own_baseE {w : World} {base : Nat} {v : Value} {l : List Ext} (h : OwnE w base v l) : ∀ k, v.ownBlock = some k → base ≤ k := fun k hk => own_base' h k hk
theorem grw_own {W w1 w2 : World} {base : Nat} {v : Value} {l : List Ext} (hg : Grw W w1) (h : OwnE w1 base v l) (hb : W.heap.size ≤ base) (k : w1.grownBy w2 v.ownBlock) : Grw W w2 :=
  show Below _ _ _ from Below.grown hg k hg.size (fun j e => by have := own_baseE h j e; omega)

/-- the runs of extents come back: of some order of theirs by their slots. -/
def RetRuns (l : List Ext) (w : World) (e : Ending) (w' : World) : Prop := ∃ v l', e = .returned v ∧ l.Perm l' ∧ l'.Pairwise slotLe ∧ OwnE w' w.heap.size v (runsL l') ∧ Grw w w'
set_option maxRecDepth 100000 in
set_option maxHeartbeats 1000000 in
theorem runs_any {l : List Ext} {v : Value} {W0 : World} (h : Exts W0 v l) (ho : ∀ x ∈ l, x.One) (hn : l.length ≤ 1000000) :
    Calls Tryz.prog 160 #[v] W0 (RetRuns l W0) := by
  obtain ⟨i0, hi, hz0, hz1, hz2⟩ := info_parts infoE
  have c1 := clone_ext_any h hn
  have c2 := fun (w : World) (s : Value) (hs : Exts w s l) => delete_any hs ho
  have c3 := fun (w : World) (s : Value) (hs : OwnE w W0.heap.size s l) => sort_any hs hn
  replace c2 : Aside (∀ (w : World) (s : Value) (hs : Exts w s l), _) := c2
  replace c3 : Aside (∀ (w : World) (s : Value) (hs : OwnE w W0.heap.size s l), _) := c3
  obtain ⟨A, cap, rfl, -, -, -⟩ := h.shape
  clear h
  go_enter Tryz.func160, Tryz.ntmps160
  go_wp2_with first | (go_at_call 159; refine c1.mono ?_; clear c1; rintro e w1 ⟨v1, rfl, hown1, g1⟩) | (go_at_call 199; refine (c2.out _ _ hown1.exts).mono ?_; rintro e w2 ⟨rfl, g2⟩) | (go_at_call 201; refine (c3.out _ _ (hown1.kept g2)).mono ?_; rintro e w3 ⟨rfl, l', hperm, hsort, hown3, g3⟩; obtain ⟨A3, cap3, rfl, hc3, hm3, hx⟩ := hown3.exts.shape)
  have hW3 : Grw W0 w3 := grw_own (g1.then g2) (hown1.kept g2) (Nat.le_refl _) g3
  have hlen : l'.length = l.length := hperm.length_eq.symm
  have hln : l'.length ≤ 1000000 := by omega
  have hin : inL1 65536 l' := fun x hx => by have := ho x (hperm.mem_iff.2 hx); unfold Ext.One at this; omega
  replace hinv : Aside (∀ k, k ≤ l'.length → RunInv 65536 (l'.take k) (runsL (l'.take k))) := runsL_take hin hsort
  replace hin : Aside (inL1 65536 l') := hin
  replace hperm : Aside (l.Perm l') := hperm
  replace hsort : Aside (l'.Pairwise slotLe) := hsort
  replace hx : Aside (∀ i x, l'[i]? = some x → ∃ b off, A3 = some ⟨b, off, none⟩ ∧ w3.cell? ⟨b, off + i * 3, none⟩ = some (.int .i64 x.at_) ∧ w3.cell? ⟨b, off + i * 3 + 1, none⟩ = some (.int .i64 x.len) ∧ w3.cell? ⟨b, off + i * 3 + 2, none⟩ = some (.int .i64 x.slot)) := hx
  have hlt3 : ∀ b off, A3 = some ⟨b, off, none⟩ → True := fun _ _ _ => trivial
  clear hown1 hown3 g1 g2 g3 c2 c3 ho hlen hlt3
  unfold maxLen at hm3
  obtain ⟨Bs, hBs⟩ : ∃ Bs, w3.heap.size = Bs := ⟨_, rfl⟩
  go_loopg [4, 15] l'.length (fun g s4 i wr => ∃ k : Nat, k ≤ l'.length ∧ g = l'.length - k ∧ i = .int .i64 k ∧ OwnE wr Bs s4 (runsL (l'.take k)) ∧ Grw w3 wr)
  case atStart => exact ⟨0, Nat.zero_le _, rfl, rfl, OwnE.nil _ _, Grw.self _⟩
  case round =>
    obtain ⟨k, hk, rfl, rfl, hown, hg⟩ := hrel
    by_cases hlt : k < l'.length
    · obtain ⟨x, hlx⟩ : ∃ x, l'[k]? = some x := ⟨l'[k], List.getElem?_eq_getElem hlt⟩
      obtain ⟨b2, off, rfl, p0, p1, p2⟩ := hx.out k x hlx
      replace p0 := Grw.cell p0 _ hg
      replace p1 := Grw.cell p1 _ hg
      replace p2 := Grw.cell p2 _ hg
      have hinvk := hinv.out k hk
      have hrl := runs_len l' k hk
      have hxk : l'[k] = x := (List.getElem?_eq_some_iff.1 hlx).2
      have hnext := runs_take hlx
      have hxs : 0 ≤ x.slot ∧ 1 ≤ x.len ∧ x.slot + x.len ≤ 65536 := hin.out x (List.mem_of_getElem? hlx)
      clear hlx hx
      rcases List.eq_nil_or_concat (runsL (l'.take k)) with hR | ⟨m, z, hR⟩
      · rw [hR] at hown hnext
        clear hR hinvk
        replace hnext : Aside (runsL (l'.take (k + 1)) = [⟨0, x.len, x.slot⟩]) := hnext
        obtain ⟨A9, cap9, rfl, _, _, _⟩ := hown.exts.shape
        have hln2 : Aside (([] : List Ext).length + 1 ≤ 1000000) := (by decide : ([] : List Ext).length + 1 ≤ 1000000)
        have hW := Grw.alloc wr (.cells #[.int .i64 x.at_, .int .i64 x.len, .int .i64 x.slot] 105)
        obtain ⟨d0, d1, d2⟩ := ext_cells (alloc_blk wr (.cells #[.int .i64 x.at_, .int .i64 x.len, .int .i64 x.slot] 105))
        go_wp2
        generalize hWd : wr.alloc (.cells #[.int .i64 x.at_, .int .i64 x.len, .int .i64 x.slot] 105) = W at hW d0 d1 d2 ⊢
        clear hWd p0 p1 p2
        refine gw_region [(0, true), (1, true), (2, true), (3, true), (4, true), (5, true), (6, true), (7, true), (8, true), (9, true), (10, true), (11, true), (12, true), (13, true), (14, true), (15, true), (16, true), (17, true)] (by kernel_rfl) (by kernel_rfl) (fun c a d v w1 h => by cases d <;> exact h) ?_
        intro A hA
        iterate 3 (apply gw_q hA rfl rfl; intro pp; go_simp; rfl; go_simp)
        iterate 14 (refine gw_g hA rfl (by first | (rw [hA.out]; done) | (rw [hA.out]; rfl)) (by with_reducible first | assumption | exact Grw.drw _) ?_; go_simp)
        iterate 1 (apply gw_q hA rfl rfl; intro pp; go_simp; rfl; go_simp)
        refine pi_nil ?_
        have hV := Grw.drw W
        generalize W.drew = V at hV ⊢
        obtain ⟨b0, b1, b2⟩ : V.cell? ⟨wr.heap.size, 0, none⟩ = some (.int .i64 x.at_) ∧ V.cell? ⟨wr.heap.size, 1, none⟩ = some (.int .i64 x.len) ∧ V.cell? ⟨wr.heap.size, 2, none⟩ = some (.int .i64 x.slot) := ⟨d0 V hV, d1 V hV, d2 V hV⟩
        have hVown : OwnE V Bs _ _ := hown.kept (hW.then hV)
        have hVs : Bs ≤ V.heap.size := by have := (hg.then (hW.then hV)).size; omega
        clear d0 d1 d2
        go_wp2_with (at_builtin; refine wpList_append_lies _ rfl _ _ 40 rfl Bs 105 i0 _ 3 24 Tryz.underlying40 hi hz0 hz1 hz2 rfl (by decide) _ ([] : List Ext).length (flat extC []) rfl (World.ownsRow.alloc hVown _) ⟨V.heap.size, 0, none⟩ 1 1 (extC ⟨0, x.len, x.slot⟩) rfl rfl (news1 V ⟨0, x.len, x.slot⟩) (ext_one _) (by decide) (by have := hln2.out; unfold maxLen; omega) (by have := hln2.out; omega) (by simp; omega) (V.heap.size + 1) (by simp) ?_; intro g9 cap8 w9 hown9 hgrow hat hgl)
        go_roundg (l'.length - (k + 1))
        case measure => omega
        case rel =>
          refine ⟨k + 1, by omega, rfl, rfl, ?_, ?_⟩
          · rw [hnext.out]
            unfold OwnE
            have e1 : (([] : List Ext) ++ [(⟨0, x.len, x.slot⟩ : Ext)]).length = ([] : List Ext).length + 1 := by simp
            have h9 := hown9
            simpa [flat] using h9
          · exact grw_own ((hg.then (hW.then hV)).alc _) (hVown.kept (Grw.alloc _ _)) (by rw [hBs]; exact Nat.le_refl _) hgrow
      · rw [List.concat_eq_append] at hR
        rw [hR] at hown hnext hinvk hrl
        clear hR
        have hz : 0 ≤ z.slot ∧ 1 ≤ z.len ∧ z.slot + z.len ≤ 65536 := hinvk.inn z (by simp)
        have hza : z.at_ = 0 := hinvk.at0 z (by simp)
        have hzx : z.slot ≤ x.slot := hinvk.low x.slot (fun y hy => by
          obtain ⟨j, hj, rfl⟩ := List.getElem_of_mem hy
          rw [List.getElem_take]
          have := List.pairwise_iff_getElem.1 hsort.out j k (by simp at hj; omega) hlt (by simp at hj; omega)
          rw [hxk] at this
          exact this) z (by simp)
        clear hinvk
        have hln2 : Aside ((m ++ [z]).length + 1 ≤ 1000000) := (by omega : (m ++ [z]).length + 1 ≤ 1000000)
        obtain ⟨hz1', hz2', hz3'⟩ := hz
        obtain ⟨hx1', hx2', hx3'⟩ := hxs
        rw [runStep_snoc] at hnext
        obtain ⟨g, cap9, rfl, hb1, hb2, q0, q1, q2, qf⟩ := hown.shape
        simp only [List.length_append, List.length_cons, List.length_nil, Nat.zero_add] at hrl
        have hm1 : (m.length : Int) ≤ 9223372036854775807 := by omega
        have hm2 : (m.length : Int) < m.length + 1 := by omega
        have e3 : IntKind.i64.wrap (z.slot + z.len) = z.slot + z.len := wrapI (by omega) (by omega)
        have e4 : IntKind.i64.wrap (x.slot + x.len) = x.slot + x.len := wrapI (by omega) (by omega)
        have e5 : IntKind.i64.wrap (x.slot + x.len - z.slot) = x.slot + x.len - z.slot := wrapI (by omega) (by omega)
        have hW := Grw.alloc wr (.cells #[.int .i64 x.at_, .int .i64 x.len, .int .i64 x.slot] 105)
        obtain ⟨d0, d1, d2⟩ := ext_cells (alloc_blk wr (.cells #[.int .i64 x.at_, .int .i64 x.len, .int .i64 x.slot] 105))
        go_wp2
        generalize hWd : wr.alloc (.cells #[.int .i64 x.at_, .int .i64 x.len, .int .i64 x.slot] 105) = W at hW d0 d1 d2 ⊢
        clear hWd p0 p1 p2
        have q0 : ∀ B, Grw W B → B.cell? _ = _ := fun B hB => Grw.cell q0 B (hW.then hB)
        have q1 : ∀ B, Grw W B → B.cell? _ = _ := fun B hB => Grw.cell q1 B (hW.then hB)
        have q2 : ∀ B, Grw W B → B.cell? _ = _ := fun B hB => Grw.cell q2 B (hW.then hB)
        by_cases c1 : x.slot ≤ z.slot + z.len
        · rw [if_pos c1] at hnext
          have e1 : decide (x.slot ≤ z.slot + z.len) = true := decide_eq_true c1
          replace c1 : Aside (x.slot ≤ z.slot + z.len) := c1
          refine gw_region [(0, true), (1, true), (2, true), (3, true), (4, true), (5, true), (6, true), (7, true), (8, true), (9, true), (10, true), (11, true), (12, true), (13, true), (14, true), (15, true), (16, true), (17, true)] (by kernel_rfl) (by kernel_rfl) (fun c a d v w1 h => by cases d <;> exact h) ?_
          intro A hA
          iterate 3 (apply gw_q hA rfl rfl; intro pp; go_simp; rfl; go_simp)
          iterate 14 (apply gw_qg hA rfl (by first | (rw [hA.out]; done) | (rw [hA.out]; rfl)); intro pp; go_simp; rfl; go_simp)
          iterate 1 (apply gw_q hA rfl rfl; intro pp; go_simp; rfl; go_simp)
          refine pi_nil ?_
          obtain ⟨M, hM⟩ : ∃ M : Int, max z.len (x.slot + x.len - z.slot) = M := ⟨_, rfl⟩
          rw [hM] at hnext
          replace hnext : Aside (runsL (l'.take (k + 1)) = m ++ [⟨z.at_, M, z.slot⟩]) := hnext
          have hV := Grw.drw W
          generalize W.drew = V at hV ⊢
          obtain ⟨b1, b2⟩ : V.cell? ⟨wr.heap.size, 1, none⟩ = some (.int .i64 x.len) ∧ V.cell? ⟨wr.heap.size, 2, none⟩ = some (.int .i64 x.slot) := ⟨d1 V hV, d2 V hV⟩
          have r1 := q1 V hV
          have r2 := q2 V hV
          have hVown : OwnE V Bs _ _ := hown.kept (hW.then hV)
          have pf1 : V.frozen? ⟨g, m.length * 3 + 1, none⟩ = false := by
            obtain ⟨_, _, he, _, _, _, _, _, h9⟩ := hVown.shape
            injection he with he
            injection he with he
            injection he with he
            subst he
            exact h9 _
          have hne : g ≠ wr.heap.size := by omega
          have hmx : (if z.len < x.slot + x.len - z.slot then x.slot + x.len - z.slot else z.len) = M := by rw [← hM]; split <;> omega
          replace hM : Aside (max z.len (x.slot + x.len - z.slot) = M) := hM
          clear q0 q1 q2 d0 d1 d2 qf
          go_wp2
          go_region
          go_wp2
          go_roundg (l'.length - (k + 1))
          case measure => omega
          case rel =>
            have hs : V.ownsRow Bs 105 3 (.slice (some ⟨g, 0, none⟩) (m.length + 1) cap9) (m.length + 1) (flat extC (m ++ [z])) := by
              have := hVown
              unfold OwnE at this
              rw [List.length_append] at this
              exact this
            have hM2 := hM.out
            subst hM2
            obtain ⟨k1, k2⟩ := hs.stored (m.length * 3 + 1) (.int .i64 (max z.len (x.slot + x.len - z.slot)))
            rw [flat_set] at k1
            refine ⟨k + 1, by omega, rfl, rfl, ?_, ?_⟩
            · rw [hnext.out]
              unfold OwnE
              rw [List.length_append]
              exact k1
            · exact (grw_own (hg.then (hW.then hV)) hVown (by rw [hBs]; exact Nat.le_refl _) k2).then (Grw.drw _)
        · rw [if_neg c1] at hnext
          have e1 : decide (x.slot ≤ z.slot + z.len) = false := decide_eq_false c1
          replace c1 : Aside (¬ x.slot ≤ z.slot + z.len) := c1
          replace hnext : Aside (runsL (l'.take (k + 1)) = (m ++ [z]) ++ [⟨0, x.len, x.slot⟩]) := (by rw [hnext]; simp : runsL (l'.take (k + 1)) = (m ++ [z]) ++ [⟨0, x.len, x.slot⟩])
          refine gw_region [(0, true), (1, true), (2, true), (3, true), (4, true), (5, true), (6, true), (7, true), (8, true), (9, true), (10, true), (11, true), (12, true), (13, true), (14, true), (15, true), (16, true), (17, true)] (by kernel_rfl) (by kernel_rfl) (fun c a d v w1 h => by cases d <;> exact h) ?_
          intro A hA
          iterate 3 (apply gw_q hA rfl rfl; intro pp; go_simp; rfl; go_simp)
          iterate 14 (apply gw_qg hA rfl (by first | (rw [hA.out]; done) | (rw [hA.out]; rfl)); intro pp; go_simp; rfl; go_simp)
          iterate 1 (apply gw_q hA rfl rfl; intro pp; go_simp; rfl; go_simp)
          refine pi_nil ?_
          have hV := Grw.drw W
          generalize W.drew = V at hV ⊢
          obtain ⟨b0, b1, b2⟩ : V.cell? ⟨wr.heap.size, 0, none⟩ = some (.int .i64 x.at_) ∧ V.cell? ⟨wr.heap.size, 1, none⟩ = some (.int .i64 x.len) ∧ V.cell? ⟨wr.heap.size, 2, none⟩ = some (.int .i64 x.slot) := ⟨d0 V hV, d1 V hV, d2 V hV⟩
          have hVown : OwnE V Bs _ _ := hown.kept (hW.then hV)
          have hVs : Bs ≤ V.heap.size := by have := (hg.then (hW.then hV)).size; omega
          clear d0 d1 d2
          go_wp2_with (at_builtin; refine wpList_append_lies _ rfl _ _ 40 rfl Bs 105 i0 _ 3 24 Tryz.underlying40 hi hz0 hz1 hz2 rfl (by decide) _ (m ++ [z]).length (flat extC (m ++ [z])) rfl (World.ownsRow.alloc hVown _) ⟨V.heap.size, 0, none⟩ 1 1 (extC ⟨0, x.len, x.slot⟩) rfl rfl (news1 V ⟨0, x.len, x.slot⟩) (ext_one _) (by decide) (by have := hln2.out; unfold maxLen; omega) (by have := hln2.out; omega) (by simp; omega) (V.heap.size + 1) (by simp) ?_; intro g9 cap8 w9 hown9 hgrow hat hgl)
          go_roundg (l'.length - (k + 1))
          case measure => omega
          case rel =>
            refine ⟨k + 1, by omega, rfl, rfl, ?_, ?_⟩
            · rw [hnext.out]
              unfold OwnE
              have e1 : ((m ++ [z]) ++ [(⟨0, x.len, x.slot⟩ : Ext)]).length = (m ++ [z]).length + 1 := by simp
              rw [flat_snoc, e1]
              have h9 := hown9
              simp only [List.length_append, List.length_cons, List.length_nil, Nat.zero_add] at h9 ⊢
              exact h9
            · exact grw_own ((hg.then (hW.then hV)).alc _) (hVown.kept (Grw.alloc _ _)) (by rw [hBs]; exact Nat.le_refl _) hgrow
    · obtain rfl : k = l'.length := by omega
      rw [List.take_length] at hown
      clear hx hinv hin
      go_wp2
      go_ret
      exact ⟨_, l', rfl, hperm.out, hsort.out, own_low hown (by rw [← hBs]; exact hW3.size), hW3.then hg⟩
end Go.Proofs.YtbfdnfkflnajlaaGreat

/-! refcount: Zero. -/
namespace Go.Proofs.YtbfdnfkflnajlaaGreat
open Go.RowKit
open Ext hiding One

/-- runs come back that list what is listed, once. -/
def RetOcc (N : Nat) (f : Nat → Int) (w : World) (e : Ending) (w' : World) : Prop := ∃ v out, e = .returned v ∧ OwnE w' w.heap.size v out ∧ Grw w w' ∧ inL1 N out ∧ (∀ x ∈ out, x.at_ = 0) ∧ ∀ i, occL out i = f i
theorem RetRuns.occ {l : List Ext} {w w' : World} {e : Ending} {N : Nat} (hl : inL1 N l) (h : RetRuns l w e w') : RetOcc N (fun i => ind (occL l i)) w e w' := by
  obtain ⟨v, l', rfl, hp, hs, ho, hg⟩ := h
  have hi := runsL_inv (hl.perm hp) hs
  exact ⟨v, _, rfl, ho, hg, hi.inn, hi.at0, fun i => by rw [hi.occ, ← occL_perm hp]⟩
/-- the slots whose count is 0. -/
def zerosL (cs : List Int) : Nat → List Ext
  | 0 => []
  | k + 1 => zerosL cs k ++ (if cs[k]? = some 0 then [⟨0, 1, k⟩] else [])
theorem zerosL_len (cs : List Int) : ∀ k, (zerosL cs k).length ≤ k
  | 0 => by simp [zerosL]
  | k + 1 => by
    have := zerosL_len cs k
    simp only [zerosL, List.length_append]
    split <;> simp <;> omega
theorem zerosL_in (cs : List Int) {N : Nat} : ∀ k, k ≤ N → inL1 N (zerosL cs k)
  | 0, _ => inL1.nil _
  | k + 1, h => by
    refine (zerosL_in cs k (by omega)).app ?_
    split
    · exact inL1.one (by simp only; omega)
    · exact inL1.nil _
theorem zerosL_at (cs : List Int) : ∀ k, ∀ x ∈ zerosL cs k, x.at_ = 0
  | 0, x, hx => by cases hx
  | k + 1, x, hx => by
    rw [zerosL] at hx
    rcases List.mem_append.1 hx with hx | hx
    · exact zerosL_at cs k x hx
    · split at hx
      · rw [List.mem_singleton.1 hx]
      · cases hx
theorem zerosL_occ (cs : List Int) (i : Nat) : ∀ k, occL (zerosL cs k) i = if i < k ∧ cs[i]? = some 0 then 1 else 0
  | 0 => by simp [zerosL, occL]
  | k + 1 => by
    rw [zerosL, occL_append, zerosL_occ cs i k]
    by_cases hik : i = k
    · subst hik
      rw [if_neg (by omega)]
      split
      · rename_i h
        rw [if_pos ⟨by omega, h⟩]
        simp only [occL]
        rw [occ1_iff.2 (by omega)]; rfl
      · rename_i h
        rw [if_neg (fun h2 => h h2.2)]
        simp [occL]
    · have e1 : occL (if cs[k]? = some 0 then [(⟨0, 1, k⟩ : Ext)] else []) i = 0 := by
        split
        · simp only [occL]
          rw [occ1_zero.2 (by omega)]; rfl
        · simp [occL]
      rw [e1, Int.add_zero]
      have : (i < k ∧ cs[i]? = some 0) ↔ (i < k + 1 ∧ cs[i]? = some 0) := by constructor <;> (intro h; exact ⟨by omega, h.2⟩)
      by_cases hc : i < k ∧ cs[i]? = some 0
      · rw [if_pos hc, if_pos (this.1 hc)]
      · rw [if_neg hc, if_neg (fun h => hc (this.2 h))]
set_option maxRecDepth 100000 in
set_option maxHeartbeats 1000000 in
theorem zero_any {s : Value} {cs : List Int} {W0 : World} (hs : Ints W0 s cs) (hn : cs.length ≤ 65536) :
    Calls Tryz.prog 135 #[cntV s] W0 (RetOcc cs.length (fun i => if cs[i]? = some 0 then 1 else 0) W0) := by
  obtain ⟨i0, hi, hz0, hz1, hz2⟩ := info_parts infoE
  obtain ⟨A, cap, rfl, hc, hm, hx⟩ := hs.shape
  clear hs
  unfold maxLen at hm
  have hW := Grw.alloc W0 (.cells #[.slice A cs.length cap] 73)
  have hb := alloc_blk W0 (.cells #[.slice A cs.length cap] 73)
  replace hx : Aside (∀ i (x : Int), cs[i]? = some x → ∃ b off, A = some ⟨b, off, none⟩ ∧ W0.cell? ⟨b, off + i, none⟩ = some (.int .i64 x)) := hx
  have c1 := fun (w : World) (v : Value) (h : Exts w v (zerosL cs cs.length)) => (runs_any h (fun x hx => by have := zerosL_in cs (N := cs.length) cs.length (Nat.le_refl _) x hx; have h0 : x.at_ = 0 := zerosL_at cs _ x hx; unfold Ext.One; omega) (by have := zerosL_len cs cs.length; omega)).mono fun e w' h => RetRuns.occ (zerosL_in cs (N := cs.length) cs.length (Nat.le_refl _)) h
  replace c1 : Aside (∀ (w : World) (v : Value) (h : Exts w v (zerosL cs cs.length)), _) := c1
  obtain ⟨Bs, hBs⟩ : ∃ Bs, W0.heap.size = Bs := ⟨_, rfl⟩
  go_enter Tryz.func135, Tryz.ntmps135
  go_wp2
  go_loopg [3, 9] cs.length (fun g s3 i wr => ∃ k : Nat, k ≤ cs.length ∧ g = cs.length - k ∧ i = .int .i64 k ∧ OwnE wr Bs s3 (zerosL cs k) ∧ Grw W0 wr)
  case atStart => exact ⟨0, Nat.zero_le _, rfl, rfl, OwnE.nil _ _, hW⟩
  case round =>
    obtain ⟨k, hk, rfl, rfl, hown, hg⟩ := hrel
    by_cases hlt : k < cs.length
    · obtain ⟨x, hlx⟩ : ∃ x, cs[k]? = some x := ⟨cs[k], List.getElem?_eq_getElem hlt⟩
      obtain ⟨b2, off, rfl, p0⟩ := hx.out k x hlx
      replace p0 := Grw.cell p0 _ hg
      have hzl := zerosL_len cs k
      have hln2 : Aside ((zerosL cs k).length + 1 ≤ 1000000) := (by omega : (zerosL cs k).length + 1 ≤ 1000000)
      have hgs : Bs ≤ wr.heap.size := by have := hg.size; omega
      by_cases h0 : x = 0
      · subst h0
        have hnext : Aside (zerosL cs (k + 1) = zerosL cs k ++ [⟨0, 1, k⟩]) := (by rw [zerosL, if_pos hlx] : zerosL cs (k + 1) = zerosL cs k ++ [⟨0, 1, k⟩])
        clear hlx hzl
        go_wp2_with (at_builtin; refine wpList_append_lies _ rfl _ _ 40 rfl Bs 105 i0 _ 3 24 Tryz.underlying40 hi hz0 hz1 hz2 rfl (by decide) _ (zerosL cs k).length (flat extC (zerosL cs k)) rfl (World.ownsRow.alloc hown _) ⟨wr.heap.size, 0, none⟩ 1 1 (extC ⟨0, 1, k⟩) rfl rfl (news1 wr ⟨0, 1, k⟩) (ext_one _) (by decide) (by have := hln2.out; unfold maxLen; omega) (by have := hln2.out; omega) (by simp; omega) (wr.heap.size + 1) (by simp) ?_; intro g9 cap8 w9 hown9 hgrow hat hgl)
        go_roundg (cs.length - (k + 1))
        case measure => omega
        case rel =>
          refine ⟨k + 1, by omega, rfl, rfl, ?_, ?_⟩
          · rw [hnext.out]
            unfold OwnE
            rw [flat_snoc, List.length_append]
            exact hown9
          · exact grw_own (hg.alc _) (hown.kept (Grw.alloc _ _)) (by omega) hgrow
      · have hnext : Aside (zerosL cs (k + 1) = zerosL cs k) := (by rw [zerosL, if_neg (by rw [hlx]; simpa using h0), List.append_nil] : zerosL cs (k + 1) = zerosL cs k)
        clear hlx hzl
        go_wp2
        go_roundg (cs.length - (k + 1))
        case measure => omega
        case rel => exact ⟨k + 1, by omega, rfl, rfl, by rw [hnext.out]; exact hown, hg⟩
    · obtain rfl : k = cs.length := by omega
      clear hx
      obtain ⟨A9, cap9, rfl, _, _, _⟩ := hown.exts.shape
      go_wp2_with (go_at_call 160; refine (c1.out _ _ hown.exts).mono ?_; rintro e w9 ⟨v9, out, rfl, ho9, g9, h1, h2, h3⟩)
      go_ret
      refine ⟨_, out, rfl, own_low ho9 (hg.size), hg.then g9, h1, h2, fun i => ?_⟩
      rw [h3 i, zerosL_occ]
      simp only
      by_cases hci : cs[i]? = some 0
      · rw [if_pos hci, if_pos ⟨(List.getElem?_eq_some_iff.1 hci).1, hci⟩]; rfl
      · rw [if_neg hci, if_neg (fun h => hci h.2)]; rfl
end Go.Proofs.YtbfdnfkflnajlaaGreat

/-! refcount: Drop, where no count falls below nought. -/
namespace Go.Proofs.YtbfdnfkflnajlaaGreat
open Go.RowKit
open Ext hiding One

/-- counts and some list of extents come back. -/
def RetDrop (cs : List Int) (w : World) (e : Ending) (w' : World) : Prop := ∃ s v l, e = .returned (.tuple #[cntV s, v, .int .i64 0]) ∧ Ints w' s cs ∧ Exts w' v l ∧ Grw w w'
theorem Ints.setOther {w : World} {s : Value} {cs : List Int} {b o : Nat} {u v : Value} {t : TypeId} {fr : Nat × Nat} (hb : w.heap[b]? = some (.cells #[u] t fr)) (hu : ∀ c, u ≠ .int .i64 c) (h : Ints w s cs) : Ints (w.setCell ⟨b, o, none⟩ v) s cs := by
  refine ⟨h.1, h.2.imp id ?_⟩
  rintro ⟨b', off, cap, hv, h1, h2, h3⟩
  refine ⟨b', off, cap, hv, h1, h2, fun j y hy => ?_⟩
  have hc := h3 j y hy
  obtain ⟨c, rfl⟩ : ∃ c, y = .int .i64 c := by
    obtain ⟨c, _, e⟩ := List.mem_map.1 (List.mem_of_getElem? hy)
    exact ⟨c, e.symm⟩
  have hne : b' ≠ b := by
    rintro rfl
    rw [blk_cell hb] at hc
    have : Value.int .i64 c ∈ [u] := List.mem_of_getElem? (by simpa using hc)
    exact hu c (List.mem_singleton.1 this).symm
  rw [← hc]
  exact World.cell?_of_block (w := w) (Below.heap_setCell _ _ _ _ hne)
theorem Exts.setOther {w : World} {s : Value} {l : List Ext} {b o : Nat} {u v : Value} {t : TypeId} {fr : Nat × Nat} (hb : w.heap[b]? = some (.cells #[u] t fr)) (hu : ∀ c, u ≠ .int .i64 c) (h : Exts w s l) : Exts (w.setCell ⟨b, o, none⟩ v) s l := by
  refine ⟨h.1, h.2.imp id ?_⟩
  rintro ⟨b', off, cap, hv, h1, h2, h3⟩
  refine ⟨b', off, cap, hv, h1, h2, fun j y hy => ?_⟩
  have hc := h3 j y hy
  obtain ⟨c, rfl⟩ : ∃ c, y = .int .i64 c := by
    obtain ⟨cs, hcs, e⟩ := List.mem_flatten.1 (List.mem_of_getElem? hy)
    obtain ⟨x, _, rfl⟩ := List.mem_map.1 hcs
    simp only [extC, List.mem_cons, List.not_mem_nil, or_false] at e
    rcases e with rfl | rfl | rfl <;> exact ⟨_, rfl⟩
  have hne : b' ≠ b := by
    rintro rfl
    rw [blk_cell hb] at hc
    have : Value.int .i64 c ∈ [u] := List.mem_of_getElem? (by simpa using hc)
    exact hu c (List.mem_singleton.1 this).symm
  rw [← hc]
  exact World.cell?_of_block (w := w) (Below.heap_setCell _ _ _ _ hne)
theorem own_lt {w : World} {base : Nat} {v : Value} {l : List Ext} (h : OwnE w base v l) : ∀ k, v.ownBlock = some k → k < w.heap.size := by
  intro k hk
  obtain ⟨h1, ⟨rfl, h0⟩ | ⟨g, cap, cur, rfl, hg, hb, _⟩⟩ := h
  · cases hk
  · have : g = k := by injection hk
    have := (Array.getElem?_eq_some_iff.1 hb).1
    omega
theorem sumL_take_succ {l : List Ext} {k : Nat} {x : Ext} (hx : l[k]? = some x) : sumL (l.take (k + 1)) = sumL (l.take k) + x.len := by
  have hk : k < l.length := (List.getElem?_eq_some_iff.1 hx).1
  rw [List.take_succ_eq_append_getElem hk, sumL_append, show l[k] = x from (List.getElem?_eq_some_iff.1 hx).2]
  simp [sumL]
set_option maxRecDepth 100000 in
set_option maxHeartbeats 1000000 in
theorem drop_any {l : List Ext} {v s : Value} {cs : List Int} {W0 : World} (hl : Exts W0 v l) (hs : Ints W0 s cs) (hin : inL1 cs.length l) (hn : cs.length ≤ 65536) (hsum : sumL l ≤ 200000) (hb : ∀ c ∈ cs, -1000000000 ≤ c ∧ c ≤ 1000000000) (hneg : negB (chg cs l (-1)) = false) :
    Calls Tryz.prog 123 #[cntV s, v] W0 (RetDrop (chg cs l (-1)) W0) := by
  obtain ⟨i0, hi, hz0, hz1, hz2⟩ := info_parts infoE
  have hll : (l.length : Int) ≤ 200000 := by have := len_le_sum hin; omega
  have hp : permB cs.length l = true := by
    unfold permB
    rw [List.all_eq_true]
    intro x hx
    have := hin x hx
    unfold inN
    rw [decide_eq_true_eq]
    omega
  obtain ⟨A, cap, rfl, -, -, -⟩ := hs.shape
  obtain ⟨A2, cap2, rfl, hc2, hm2, -⟩ := hl.shape
  unfold maxLen at hm2
  have hg0 := (Grw.alloc W0 (.cells #[.slice A cs.length cap] 73)).alc (.cells #[.slice none 0 0] 73)
  have a1 : ((W0.alloc (.cells #[.slice A cs.length cap] 73)).alloc (.cells #[.slice none 0 0] 73)).heap[W0.heap.size]? = some (.cells #[.slice A cs.length cap] 73 (0, 0)) := (Grw.alloc _ _).blk (alloc_blk W0 _)
  have a2 := alloc2_blk W0 (.cells #[.slice A cs.length cap] 73) (.cells #[.slice none 0 0] 73)
  have c1 := permitted_any (hl.grw hg0) (hs.grw hg0) (fun x hx => by have := hin x hx; omega) (by omega)
  rw [hp] at c1
  have c2 := fun (W : World) (hg : Grw W0 W) => changed_any (W0 := W) (hl.grw hg) (hs.grw hg) hp (by omega) (by omega) (d := -1) (.inr rfl) hb
  have hlen : (chg cs l (-1)).length = cs.length := addAt_length _ _
  generalize chg cs l (-1) = cs2 at *
  rw [← hlen] at hin hn
  replace hlen : Aside (cs2.length = cs.length) := hlen
  have c3 := fun (W : World) (s : Value) (h : Ints W s cs2) => contains_any h
  rw [hneg] at c3
  replace c3 : Aside (∀ (W : World) (s : Value) (h : Ints W s cs2), _) := c3
  replace hp : Aside (permB cs.length l = true) := hp
  clear hb hneg
  replace hin : Aside (inL1 cs2.length l) := hin
  replace hsum : Aside (sumL l ≤ 200000) := hsum
  go_enter Tryz.func123, Tryz.ntmps123
  go_wp2_with (first
    | (go_at_call 171; refine c1.mono ?_; clear c1; rintro e w1 ⟨rfl, g1⟩; have g2 := hg0.then g1; have b1 := g1.blk a1; have b2 := g1.blk a2; have v1 := (var_facts b1).1)
    | (go_at_call 172; refine (c2 _ g2).mono ?_; clear c2; rintro e w2 ⟨s', rfl, ⟨hi2, -⟩, g3⟩; obtain ⟨A9, cap9, rfl, hc9, hm9, hx9⟩ := hi2.shape; have b3 := g3.blk b2)
    | (go_at_call 173; refine (c3.out _ _ (hi2.grw (Grw.alloc _ _))).mono ?_; clear c3; rintro e w3 ⟨rfl, rfl⟩))
  have hgA := (g2.then g3).alc (.cells #[.slice A9 cs2.length cap9] 73)
  have hbA := alloc_blk w2 (.cells #[.slice A9 cs2.length cap9] 73)
  have hbR := (Grw.alloc w2 (.cells #[.slice A9 cs2.length cap9] 73)).blk b3
  have hiA := hi2.grw (Grw.alloc w2 (.cells #[.slice A9 cs2.length cap9] 73))
  have hszA : W0.heap.size + 1 < w2.heap.size := by have := (Array.getElem?_eq_some_iff.1 b3).1; omega
  generalize w2.alloc (.cells #[.slice A9 cs2.length cap9] 73) = W at hgA hbA hbR hiA ⊢
  have hl2 := hl.grw hgA
  clear hg0 a1 a2 g1 g2 g3 b1 b2 b3 v1 hi2 hx9 hs hl
  obtain ⟨A3, cap3, e3, _, _, hx⟩ := hl2.shape
  injection e3 with e31 _ e32
  subst e31; subst e32
  obtain ⟨A8, cap8, e8, _, _, hcell⟩ := hiA.shape
  injection e8 with e81 _ e82
  subst e81; subst e82
  replace hcell : Aside (∀ i (x : Int), cs2[i]? = some x → ∃ b off, A9 = some ⟨b, off, none⟩ ∧ W.cell? ⟨b, off + i, none⟩ = some (.int .i64 x)) := hcell
  replace hx : Aside (∀ i x, l[i]? = some x → ∃ b off, A2 = some ⟨b, off, none⟩ ∧ W.cell? ⟨b, off + i * 3, none⟩ = some (.int .i64 x.at_) ∧ W.cell? ⟨b, off + i * 3 + 1, none⟩ = some (.int .i64 x.len) ∧ W.cell? ⟨b, off + i * 3 + 2, none⟩ = some (.int .i64 x.slot)) := hx
  clear hl2
  have gs := Grw.self W
  unfold maxLen at hm9
  obtain ⟨Bs, hBs⟩ : ∃ Bs, W.heap.size = Bs := ⟨_, rfl⟩
  obtain ⟨B7, hB7⟩ : ∃ B7, w2.heap.size = B7 := ⟨_, rfl⟩
  rw [hB7] at hbA hszA ⊢
  have v7 : ∀ B, Grw W B → B.cell? ⟨B7, 0, none⟩ = some (.slice A9 cs2.length cap9) := fun B hB => (var_facts (hB.blk hbA)).1
  go_wp2
  go_loopg [8, 26] l.length (fun g s8 i wr => ∃ (k : Nat) (fl : List Ext), k ≤ l.length ∧ g = l.length - k ∧ i = .int .i64 k ∧ OwnE wr Bs s8 fl ∧ inL1 cs2.length fl ∧ (∀ x ∈ fl, x.at_ = 0) ∧ (fl.length : Int) ≤ sumL (l.take k) ∧ Grw W wr)
  case atStart => exact ⟨0, [], Nat.zero_le _, rfl, rfl, OwnE.nil _ _, inL1.nil _, by simp, by simp [sumL], Grw.self _⟩
  case round =>
    obtain ⟨k, fl, hk, rfl, rfl, hown, hfl, hfa, hfs, hg⟩ := hrel
    by_cases hlt : k < l.length
    · obtain ⟨x, hlx⟩ : ∃ x, l[k]? = some x := ⟨l[k], List.getElem?_eq_getElem hlt⟩
      obtain ⟨b2, off, rfl, p0, p1, p2⟩ := hx.out k x hlx
      replace p0 := Grw.cell p0 _ hg
      replace p1 := Grw.cell p1 _ hg
      replace p2 := Grw.cell p2 _ hg
      have hxin := hin.out x (List.mem_of_getElem? hlx)
      obtain ⟨i1, i2, i3⟩ := hxin
      have hsk := sumL_take_succ hlx
      have hsum1 : sumL (l.take (k + 1)) ≤ 200000 := by
        have e : sumL l = sumL (l.take (k + 1)) + sumL (l.drop (k + 1)) := by rw [← sumL_append, List.take_append_drop]
        have := sumL_in (n := cs2.length) (l := l.drop (k + 1)) (fun y hy => hin.out y (List.mem_of_mem_drop hy))
        have := hsum.out
        omega
      obtain ⟨S0, hS0⟩ : ∃ S, sumL (l.take k) = S := ⟨_, rfl⟩
      rw [hS0] at hsk hfs
      rw [hsk] at hsum1
      replace hsk : Aside (sumL (l.take (k + 1)) = S0 + x.len) := hsk
      clear hlx hx hS0
      obtain ⟨T, hT0⟩ : ∃ T, x.slot + x.len = T := ⟨_, rfl⟩
      have hw1 : IntKind.i64.wrap (x.slot + x.len) = T := by rw [wrapI (by omega) (by omega), hT0]
      go_wp2
      have hW2 := Grw.alloc wr (.cells #[.int .i64 x.at_, .int .i64 x.len, .int .i64 x.slot] 105)
      have hbox := alloc_blk wr (.cells #[.int .i64 x.at_, .int .i64 x.len, .int .i64 x.slot] 105)
      obtain ⟨d0, d1, d2⟩ := ext_cells hbox
      have hnb : Value.ownBlock _ ≠ some wr.heap.size := fun e => by have := own_lt hown _ e; omega
      have hown2 := hown.kept hW2
      have hg2 := hg.then hW2
      have hbs2 : Bs ≤ wr.heap.size := by have := hg.size; omega
      generalize wr.alloc (.cells #[.int .i64 x.at_, .int .i64 x.len, .int .i64 x.slot] 105) = wa at hW2 d0 d1 d2 hown2 hg2 hbox ⊢
      clear p0 p1 p2 hown hW2
      obtain ⟨bx, hbx⟩ : ∃ bx, wr.heap.size = bx := ⟨_, rfl⟩
      rw [hbx] at hbox hnb d0 d1 d2 ⊢
      obtain ⟨j0, hj0⟩ : ∃ j0 : Nat, x.slot = j0 := ⟨x.slot.toNat, by omega⟩
      replace hT0 : Aside (x.slot + x.len = T) := hT0
      have hTn : T ≤ cs2.length := by have := hT0.out; omega
      have hTj : x.slot ≤ T := by have := hT0.out; omega
      go_loopg [8, 11] (T - x.slot).toNat (fun g s8 s11 wx => ∃ (j : Nat) (f2 : List Ext), s11 = .int .i64 (j : Int) ∧ x.slot ≤ j ∧ (j : Int) ≤ T ∧ g = (T - j).toNat ∧ OwnE wx Bs s8 f2 ∧ inL1 cs2.length f2 ∧ (∀ x ∈ f2, x.at_ = 0) ∧ (f2.length : Int) ≤ S0 + (j - x.slot) ∧ Grw W wx ∧ wx.heap[bx]? = some (.cells #[.int .i64 x.at_, .int .i64 x.len, .int .i64 x.slot] 105 (0, 0)) ∧ s8.ownBlock ≠ some bx)
      case atStart => exact ⟨j0, fl, by rw [hj0], by omega, by omega, by rw [hj0], hown2, hfl, hfa, by omega, hg2, hbox, hnb⟩
      case round =>
        clear hj0 hown2 hfl hfa hfs hbox hnb d0 d1 d2
        obtain ⟨j, f2, rfl, hj1, hj2, rfl, hown, hfl, hfa, hfs, hgx, hbox, hnb⟩ := hrel
        obtain ⟨-, d1, d2⟩ := ext_cells hbox
        have gs2 := Grw.self wr
        have v7 : ∀ B, Grw wr B → _ := fun B hB => v7 B (hgx.then hB)
        by_cases hjl : (j : Int) < T
        · have hjn : j < cs2.length := by omega
          obtain ⟨c, hcj⟩ : ∃ c, cs2[j]? = some c := ⟨cs2[j], List.getElem?_eq_getElem hjn⟩
          obtain ⟨b3, off3, rfl, p0⟩ := hcell.out j c hcj
          replace p0 : ∀ B, Grw wr B → B.cell? _ = _ := fun B hB => Grw.cell p0 B (hgx.then hB)
          clear hcell hcj
          have hT1 := hT0.out
          have hln2 : Aside (f2.length + 1 ≤ 1000000) := (by omega : f2.length + 1 ≤ 1000000)
          have hbs3 : Bs ≤ wr.heap.size := by have := hgx.size; omega
          replace hfs : Aside ((f2.length : Int) ≤ S0 + (j - x.slot)) := hfs
          by_cases h0 : c = 0
          · subst h0
            go_wp2_with (at_builtin; refine wpList_append_lies _ rfl _ _ 40 rfl Bs 105 i0 _ 3 24 Tryz.underlying40 hi hz0 hz1 hz2 rfl (by decide) _ f2.length (flat extC f2) rfl (World.ownsRow.alloc hown _) ⟨wr.heap.size, 0, none⟩ 1 1 (extC ⟨0, 1, j⟩) rfl rfl (news1 wr ⟨0, 1, j⟩) (ext_one _) (by decide) (by have := hln2.out; unfold maxLen; omega) (by have := hln2.out; omega) (by simp; omega) (wr.heap.size + 1) (by simp) ?_; intro g9 cap8 w9 hown9 hgrow hat hgl)
            go_roundg (T - ((j + 1 : Nat) : Int)).toNat
            case measure => omega
            case rel =>
              refine ⟨j + 1, f2 ++ [⟨0, 1, j⟩], by simp, by omega, by omega, rfl, ?_, hfl.app (inL1.one (by simp only; omega)), ?_, ?_, ?_, ?_, ?_⟩
              · unfold OwnE
                rw [flat_snoc, List.length_append]
                exact hown9
              · intro y hy
                rcases List.mem_append.1 hy with hy | hy
                · exact hfa y hy
                · rw [List.mem_singleton.1 hy]
              · have := hfs.out
                simp only [List.length_append, List.length_cons, List.length_nil]; omega
              · exact grw_own (hgx.alc _) (hown.kept (Grw.alloc _ _)) (by omega) hgrow
              · have hlt9 := (Array.getElem?_eq_some_iff.1 hbox).1
                rw [hgrow.block bx (by simp; omega) (fun e => hnb e.symm), Below.heap_alloc _ _ _ hlt9]
                exact hbox
              · rcases hat with h | h
                · intro e
                  have e2 : g9 = bx := by injection e
                  exact hnb (h.trans (congrArg some e2))
                · intro e
                  have e2 : g9 = bx := by injection e
                  have hlt9 := (Array.getElem?_eq_some_iff.1 hbox).1
                  omega
          · go_wp2
            go_roundg (T - ((j + 1 : Nat) : Int)).toNat
            case measure => omega
            case rel => exact ⟨j + 1, f2, by simp, by omega, by omega, rfl, hown, hfl, hfa, by have := hfs.out; omega, hgx, hbox, hnb⟩
        · have hjT : (j : Int) = T := by omega
          have hlen2 : (f2.length : Int) ≤ S0 + x.len := by have := hT0.out; omega
          replace hlen2 : Aside ((f2.length : Int) ≤ S0 + x.len) := hlen2
          clear hfs hcell
          go_wp2
          go_roundg (l.length - (k + 1))
          case measure => omega
          case rel => exact ⟨k + 1, f2, by omega, rfl, by simp, hown, hfl, hfa, by rw [hsk.out]; exact hlen2.out, hgx⟩
    · obtain rfl : k = l.length := by omega
      rw [List.take_length] at hfs
      have c9 := fun (w : World) (v : Value) (h : Exts w v fl) => runs_any h (fun x hx => by have := hfl x hx; have h0 := hfa x hx; unfold Ext.One; omega) (by have := hsum.out; omega)
      have v7' : ∀ B, GrwX (OwnR (W0.heap.size + 1) 1) wr B → B.cell? ⟨B7, 0, none⟩ = some (.slice A9 cs2.length cap9) := GrwX.cell (v7 wr hg) (OwnR.not (.inr (by simp only; omega)))
      have gsx := GrwX.self (OwnR (W0.heap.size + 1) 1) wr
      obtain ⟨A5, cap5, rfl, _, _, _⟩ := hown.exts.shape
      clear hx hcell v7 hfs
      go_wp2
      refine gx_region (OwnR (W0.heap.size + 1) 1) [(0, true), (1, true), (2, false), (3, false), (4, true), (5, true)] (by kernel_rfl) (by kernel_rfl) (fun c a d v w1 h => by cases d <;> exact h) ?_
      intro A hA
      iterate 2 (apply gx_q hA rfl rfl; intro pp; go_simp; rfl; go_simp)
      refine gx_e hA rfl rfl (fun K hK => ?_)
      go_wp2_with (go_at_call 160; refine (c9 _ _ (hown.exts.grw (Grw.drw _))).mono ?_; clear c9; rintro e w9 ⟨v9, l9, rfl, _, _, ho9, g9⟩)
      have g9' := (Grw.drw _).then g9
      refine ⟨g9'.x, ?_⟩
      have hbR9 := (hg.then g9').blk hbR
      have f0 := blk_free hbR9 0
      have r0 := blk_cell hbR9 0
      simp only [List.getElem?_toArray, List.getElem?_cons_zero] at r0
      refine gx_e hA rfl rfl (fun K hK => ?_)
      go_wp2
      refine ⟨GrwX.set g9'.x (p := ⟨W0.heap.size + 1, 0, none⟩) OwnR.at0 _, ?_⟩
      iterate 2 (apply gx_q hA rfl rfl; intro pp; go_simp; rfl; go_simp)
      refine pi_nil ?_
      go_wp2
      have hgs := (hgA.then hg).then g9'
      obtain ⟨k1, k2⟩ := set_one (w0 := W0) hbR9 (by omega) hgs (.slice A9 cs2.length cap9)
      have q0 := blk_cell k1 0
      simp only [List.getElem?_toArray, List.getElem?_cons_zero] at q0
      have hi9 := ((hiA.grw hg).grw g9').setOther (o := 0) (v := .slice A9 cs2.length cap9) hbR9 (fun c h => by cases h)
      have he9 := (Exts.setOther (o := 0) (v := .slice A9 cs2.length cap9) hbR9 (fun c h => by cases h) (OwnE.exts ho9))
      refine bodyPost_ret (v := .tuple #[cntV (.slice A9 cs2.length cap9), v9, .int .i64 0]) (by simp [results, Tryz.results123, go_sem, q0]) rfl ⟨_, v9, _, rfl, hi9, he9, k2⟩
end Go.Proofs.YtbfdnfkflnajlaaGreat
