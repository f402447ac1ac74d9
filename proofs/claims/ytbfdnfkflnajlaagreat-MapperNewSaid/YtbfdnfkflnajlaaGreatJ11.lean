/-
  refcount: Single.
-/
import Derived.Test.YtbfdnfkflnajlaaGreatJ10
set_option linter.unusedVariables false
set_option linter.unusedSimpArgs false
/-! refcount: Single. -/
namespace Go.Proofs.YtbfdnfkflnajlaaGreat
open Go.RowKit
open Ext hiding One

/-- how many slots that f picks have the count 1. -/
def cnt1 (cs : List Int) (f : Nat → Bool) : Nat → Int
  | 0 => 0
  | n + 1 => cnt1 cs f n + if f n = true ∧ cs[n]? = some 1 then 1 else 0
theorem cnt1_congr {cs : List Int} {f g : Nat → Bool} : ∀ {n : Nat}, (∀ i, i < n → f i = g i) → cnt1 cs f n = cnt1 cs g n
  | 0, _ => rfl
  | n + 1, h => by simp only [cnt1]; rw [cnt1_congr (fun i hi => h i (by omega)), h n (by omega)]
theorem cnt1_step {cs : List Int} {f g : Nat → Bool} {s : Nat} (hg : ∀ i, g i = (f i || decide (i = s))) : ∀ {n : Nat}, s < n → cnt1 cs g n = cnt1 cs f n + if f s = false ∧ cs[s]? = some 1 then 1 else 0
  | 0, h => by omega
  | n + 1, h => by
    simp only [cnt1]
    rcases Nat.lt_or_ge s n with h1 | h1
    · rw [cnt1_step hg h1, hg n, show decide (n = s) = false from decide_eq_false (by omega), Bool.or_false]
      omega
    · obtain rfl : s = n := by omega
      rw [cnt1_congr (f := g) (g := f) (fun i hi => by rw [hg i, show decide (i = s) = false from decide_eq_false (by omega), Bool.or_false]), hg s]
      cases hf : f s <;> simp
theorem cnt1_bound (cs : List Int) (f : Nat → Bool) : ∀ n, 0 ≤ cnt1 cs f n ∧ cnt1 cs f n ≤ n
  | 0 => by simp [cnt1]
  | n + 1 => by
    have := cnt1_bound cs f n
    simp only [cnt1]
    split <;> omega
def rowB (f : Nat → Bool) (n : Nat) : List Value := (List.range n).map fun i => .bool (f i)
theorem rowB_get {f : Nat → Bool} {n i : Nat} (h : i < n) : (rowB f n)[i]? = some (.bool (f i)) := by simp [rowB, h]
theorem rowB_set {f g : Nat → Bool} {n s : Nat} (hg : ∀ i, g i = (f i || decide (i = s))) : (rowB f n).set s (.bool true) = rowB g n := by
  apply List.ext_getElem?
  intro i
  rw [List.getElem?_set]
  rcases Nat.lt_or_ge i n with hi | hi
  · split
    · rename_i e
      subst e
      rw [if_pos (by simpa [rowB] using hi), rowB_get hi, hg s]
      simp
    · rename_i e
      rw [rowB_get hi, rowB_get hi, hg i, show decide (i = s) = false from decide_eq_false (Ne.symm e), Bool.or_false]
  · rw [List.getElem?_eq_none (l := rowB g n) (by simpa [rowB] using hi)]
    split
    · rw [if_neg (by simp [rowB]; omega)]
    · exact List.getElem?_eq_none (by simpa [rowB] using hi)
/-- which slots a list lists. -/
def seenF (l : List Ext) (i : Nat) : Bool := decide (0 < occL l i)
def singleN (cs : List Int) (l : List Ext) : Int := cnt1 cs (seenF l) cs.length
/-- between two rounds of 'Single'. -/
structure SiSt (W0 : World) (N : Nat) (f : Nat → Bool) (w : World) : Prop where
  g : Grw W0 w
  row : w.heap[W0.heap.size + 1]? = some (.cells (rowB f N).toArray 4 (0, 0))
theorem SiSt.alc {W0 w : World} {N : Nat} {f : Nat → Bool} (h : SiSt W0 N f w) (o : Obj) : SiSt W0 N f (w.alloc o) := ⟨h.g.alc o, (Grw.alloc w o).blk h.row⟩
theorem SiSt.set {W0 w : World} {N : Nat} {f g : Nat → Bool} {s : Nat} (h : SiSt W0 N f w) (hg : ∀ i, g i = (f i || decide (i = s))) : SiSt W0 N g (w.setCell ⟨W0.heap.size + 1, s, none⟩ (.bool true)) :=
  ⟨show Below _ _ _ from Below.setCell h.g (p := ⟨W0.heap.size + 1, s, none⟩) (by dsimp only; omega) _, by
    rw [setCell_blk h.row s (.bool true), ← rowB_set hg]
    simp⟩

set_option maxRecDepth 100000 in
set_option maxHeartbeats 1000000 in
theorem single_any {l : List Ext} {v s : Value} {cs : List Int} {W0 : World} (hl : Exts W0 v l) (hs : Ints W0 s cs) (hp : permB cs.length l = true) (hn : cs.length ≤ 1000000) :
    Calls Tryz.prog 90 #[cntV s, v] W0 fun e w' => e = .returned (.int .i64 (singleN cs l)) ∧ Grw W0 w' := by
  obtain ⟨A, cap, rfl, hc1, hc2, hcell⟩ := hs.shape
  obtain ⟨B, cap2, rfl, hc3, hc4, hx⟩ := hl.shape
  have hmk := run_make_row' (P := Tryz.prog) 224 4 (.bool false) 1 Tryz.underlying224 (by kernel_rfl) rfl .i64 .i64 cs.length (by omega) (by omega)
  have hW := (Grw.alloc W0 (.cells #[.slice A cs.length cap] 73)).alc (.cells (madeCells #[.bool false] cs.length) 4)
  have a1 : ((W0.alloc (.cells #[.slice A cs.length cap] 73)).alloc (.cells (madeCells #[.bool false] cs.length) 4)).heap[W0.heap.size]? = some (.cells #[.slice A cs.length cap] 73 (0, 0)) := (Grw.alloc _ _).blk (alloc_blk W0 _)
  have a2 := alloc2_blk W0 (.cells #[.slice A cs.length cap] 73) (.cells (madeCells #[.bool false] cs.length) 4)
  have hS : SiSt W0 cs.length (seenF []) ((W0.alloc (.cells #[.slice A cs.length cap] 73)).alloc (.cells (madeCells #[.bool false] cs.length) 4)) := ⟨hW, by
    rw [a2]
    have : (madeCells #[Value.bool false] cs.length) = (rowB (seenF []) cs.length).toArray := by
      apply Array.ext'
      rw [toList_madeCells_one]
      apply List.ext_getElem?
      intro i
      rcases Nat.lt_or_ge i cs.length with hi | hi
      · rw [rowB_get hi]; simp [hi, seenF, occL]
      · rw [List.getElem?_eq_none (by simpa using hi), List.getElem?_eq_none (by simpa [rowB] using hi)]
    rw [this]⟩
  clear a2
  replace hcell : Aside (∀ i (x : Int), cs[i]? = some x → ∃ b off, A = some ⟨b, off, none⟩ ∧ W0.cell? ⟨b, off + i, none⟩ = some (.int .i64 x)) := hcell
  replace hx : Aside (∀ i x, l[i]? = some x → ∃ b off, B = some ⟨b, off, none⟩ ∧ W0.cell? ⟨b, off + i * 3, none⟩ = some (.int .i64 x.at_) ∧ W0.cell? ⟨b, off + i * 3 + 1, none⟩ = some (.int .i64 x.len) ∧ W0.cell? ⟨b, off + i * 3 + 2, none⟩ = some (.int .i64 x.slot)) := hx
  replace hp : Aside (permB cs.length l = true) := hp
  go_enter Tryz.func90, Tryz.ntmps90
  go_wp2
  clear hmk hs hl
  unfold maxLen at hc2 hc4
  go_loopg [6, 17] l.length (fun g s6 i wr => ∃ k : Nat, k ≤ l.length ∧ g = l.length - k ∧ i = .int .i64 k ∧ s6 = .int .i64 (cnt1 cs (seenF (l.take k)) cs.length) ∧ SiSt W0 cs.length (seenF (l.take k)) wr ∧ wr.heap[W0.heap.size]? = some (.cells #[.slice A cs.length cap] 73 (0, 0)))
  case atStart =>
    refine ⟨0, Nat.zero_le _, rfl, rfl, ?_, hS, a1⟩
    have : ∀ n, cnt1 cs (seenF (l.take 0)) n = 0 := fun n => by
      induction n with
      | zero => rfl
      | succ n ih => simp only [cnt1, ih]; simp [seenF, occL]
    rw [this]
  case round =>
    clear hS a1 hW
    obtain ⟨k, hk, rfl, rfl, rfl, hT, hbox⟩ := hrel
    by_cases hlt : k < l.length
    · obtain ⟨x, hlx⟩ : ∃ x, l[k]? = some x := ⟨l[k], List.getElem?_eq_getElem hlt⟩
      obtain ⟨b2, off, rfl, p0, p1, p2⟩ := hx.out k x hlx
      replace p0 := Grw.cell p0 _ hT.g
      replace p1 := Grw.cell p1 _ hT.g
      replace p2 := Grw.cell p2 _ hT.g
      have hin : inN cs.length x = true := by
        have := hp.out
        unfold permB at this
        rw [List.all_eq_true] at this
        exact this x (List.mem_of_getElem? hlx)
      unfold inN at hin
      rw [decide_eq_true_eq] at hin
      obtain ⟨i1, i2, i3, i4⟩ := hin
      have hocc : ∀ i, occL (l.take (k + 1)) i = occL (l.take k) i + occ1 x.slot (x.slot + x.len) i := by
        intro i
        rw [List.take_succ_eq_append_getElem hlt, occL_append, show l[k] = x from (List.getElem?_eq_some_iff.1 hlx).2]
        simp [occL]
      replace hocc : Aside (∀ i, occL (l.take (k + 1)) i = occL (l.take k) i + occ1 x.slot (x.slot + x.len) i) := hocc
      clear hlx
      have v0 : ∀ B, Grw wr B → B.cell? ⟨W0.heap.size, 0, none⟩ = some (.slice _ cs.length cap) := fun B hB => (var_facts (hB.blk hbox)).1
      have gs := Grw.self wr
      have n1 : ¬ x.slot < 0 := by omega
      have n2 : ¬ (cs.length : Int) < x.slot := by omega
      obtain ⟨T, hT0⟩ : ∃ T, x.slot + x.len = T := ⟨_, rfl⟩
      have hmin : (if T < (cs.length : Int) then T else (cs.length : Int)) = T := by split <;> omega
      obtain ⟨C, hC⟩ : ∃ C, cnt1 cs (seenF (l.take k)) cs.length = C := ⟨_, rfl⟩
      rw [hC]
      replace hC : Aside (cnt1 cs (seenF (l.take k)) cs.length = C) := hC
      clear hx
      go_wp2
      have hT2 := hT.alc (.cells #[.int .i64 x.at_, .int .i64 x.len, .int .i64 x.slot] 105)
      have hb2 := (Grw.alloc wr (.cells #[.int .i64 x.at_, .int .i64 x.len, .int .i64 x.slot] 105)).blk hbox
      generalize wr.alloc (.cells #[.int .i64 x.at_, .int .i64 x.len, .int .i64 x.slot] 105) = wa at hT2 hb2 ⊢
      clear p0 p1 p2 v0 gs hmin hT hbox
      obtain ⟨j0, hj0⟩ : ∃ j0 : Nat, x.slot = j0 := ⟨x.slot.toNat, by omega⟩
      have hf0 : ∀ i, decide (0 < occL (l.take k) i + occ1 x.slot (j0 : Int) i) = seenF (l.take k) i := fun i => by rw [← hj0, occ1_none]; simp [seenF]
      replace hT0 : Aside (x.slot + x.len = T) := hT0
      have hTn : T ≤ cs.length := by have := hT0.out; omega
      have hTj : x.slot ≤ T := by have := hT0.out; omega
      go_loopg [6, 10] (T - x.slot).toNat (fun g s6 s10 wx => ∃ j : Nat, s10 = .int .i64 (j : Int) ∧ x.slot ≤ j ∧ (j : Int) ≤ T ∧ g = (T - j).toNat ∧ s6 = .int .i64 (cnt1 cs (fun i => decide (0 < occL (l.take k) i + occ1 x.slot j i)) cs.length) ∧ SiSt W0 cs.length (fun i => decide (0 < occL (l.take k) i + occ1 x.slot j i)) wx ∧ wx.heap[W0.heap.size]? = some (.cells #[.slice A cs.length cap] 73 (0, 0)))
      case atStart =>
        refine ⟨j0, by rw [hj0], by omega, by omega, by rw [hj0], ?_, ?_, hb2⟩
        · rw [cnt1_congr (g := seenF (l.take k)) (fun i _ => hf0 i), hC.out]
        · rw [show (fun i => decide (0 < occL (l.take k) i + occ1 x.slot (j0 : Int) i)) = seenF (l.take k) from funext hf0]
          exact hT2
      case round =>
        clear hT2 hb2 hf0 hj0
        obtain ⟨j, rfl, hj1, hj2, rfl, rfl, hT, hbox⟩ := hrel
        by_cases hjl : (j : Int) < T
        · have hjn : j < cs.length := by omega
          obtain ⟨c, hcj⟩ : ∃ c, cs[j]? = some c := ⟨cs[j], List.getElem?_eq_getElem hjn⟩
          obtain ⟨b3, off3, rfl, p0⟩ := hcell.out j c hcj
          replace p0 : ∀ B, Grw wr B → B.cell? _ = _ := fun B hB => Grw.cell p0 B (hT.g.then hB)
          have v0 : ∀ B, Grw wr B → B.cell? ⟨W0.heap.size, 0, none⟩ = some (.slice (some ⟨b3, off3, none⟩) cs.length cap) := fun B hB => (var_facts (hB.blk hbox)).1
          have hrow : ∀ B, Grw wr B → B.cell? ⟨W0.heap.size + 1, j, none⟩ = some (.bool (decide (0 < occL (l.take k) j + occ1 x.slot j j))) := fun B hB => by
            rw [blk_cell (hB.blk hT.row), List.getElem?_toArray, rowB_get hjn]
          have hfz : wr.frozen? ⟨W0.heap.size + 1, j, none⟩ = false := blk_free hT.row j
          have gs := Grw.self wr
          have hstep : ∀ i, decide (0 < occL (l.take k) i + occ1 x.slot ((j + 1 : Nat) : Int) i) = (decide (0 < occL (l.take k) i + occ1 x.slot j i) || decide (i = j)) := by
            intro i
            have hb := occL_bound (l.take k) i
            rw [Bool.eq_iff_iff]
            simp only [Bool.or_eq_true, decide_eq_true_eq]
            unfold occ1
            split <;> split <;> omega
          have hset := hT.set (s := j) (g := fun i => decide (0 < occL (l.take k) i + occ1 x.slot ((j + 1 : Nat) : Int) i)) hstep
          have hcnt := cnt1_step (cs := cs) (f := fun i => decide (0 < occL (l.take k) i + occ1 x.slot j i)) (g := fun i => decide (0 < occL (l.take k) i + occ1 x.slot ((j + 1 : Nat) : Int) i)) hstep hjn
          rw [hcj] at hcnt
          have hcb := cnt1_bound cs (fun i => decide (0 < occL (l.take k) i + occ1 x.slot j i)) cs.length
          obtain ⟨D, hD⟩ : ∃ D, cnt1 cs (fun i => decide (0 < occL (l.take k) i + occ1 x.slot j i)) cs.length = D := ⟨_, rfl⟩
          obtain ⟨F, hF⟩ : ∃ F, decide (0 < occL (l.take k) j + occ1 x.slot j j) = F := ⟨_, rfl⟩
          rw [hD] at hcb hcnt ⊢
          simp only [hF] at hrow hcnt
          obtain ⟨hcb1, hcb2⟩ := hcb
          replace hD : Aside (cnt1 cs (fun i => decide (0 < occL (l.take k) i + occ1 x.slot j i)) cs.length = D) := hD
          replace hF : Aside (decide (0 < occL (l.take k) j + occ1 x.slot j j) = F) := hF
          replace hcnt : Aside _ := hcnt
          replace hstep : Aside _ := hstep
          have hbox2 := (Below.heap_setCell wr ⟨W0.heap.size + 1, j, none⟩ (.bool true) W0.heap.size (by dsimp only; omega)).trans hbox
          clear hcell hcj
          cases F
          · by_cases h1 : c = 1
            · subst h1
              go_wp2
              go_roundg (T - ((j + 1 : Nat) : Int)).toNat
              case measure => omega
              case rel => exact ⟨j + 1, by simp, by omega, by omega, rfl, by rw [hcnt.out]; simp, hset, hbox2⟩
            · have h2 : (c == 1) = false := by simp [h1]
              replace h1 : Aside (¬ c = 1) := h1
              go_wp2
              go_roundg (T - ((j + 1 : Nat) : Int)).toNat
              case measure => omega
              case rel => exact ⟨j + 1, by simp, by omega, by omega, rfl, by rw [hcnt.out]; simp [h1.out], hset, hbox2⟩
          · go_wp2
            go_roundg (T - ((j + 1 : Nat) : Int)).toNat
            case measure => omega
            case rel => exact ⟨j + 1, by simp, by omega, by omega, rfl, by rw [hcnt.out]; simp, hset, hbox2⟩
        · have hjT : (j : Int) = T := by omega
          have hfe : ∀ i, decide (0 < occL (l.take k) i + occ1 x.slot j i) = seenF (l.take (k + 1)) i := fun i => by
            unfold seenF
            rw [hocc.out i, hT0.out, hjT]
          rw [show (fun i => decide (0 < occL (l.take k) i + occ1 x.slot j i)) = seenF (l.take (k + 1)) from funext hfe] at hT ⊢
          replace hfe : Aside _ := hfe
          replace hjT : Aside _ := hjT
          clear hcell
          go_wp2
          go_roundg (l.length - (k + 1))
          case measure => omega
          case rel => exact ⟨k + 1, by omega, rfl, rfl, rfl, hT, hbox⟩
    · obtain rfl : k = l.length := by omega
      replace hx := True.intro
      clear hcell
      rw [List.take_length] at hT ⊢
      go_wp2
      go_ret
      exact ⟨rfl, hT.g⟩
end Go.Proofs.YtbfdnfkflnajlaaGreat
