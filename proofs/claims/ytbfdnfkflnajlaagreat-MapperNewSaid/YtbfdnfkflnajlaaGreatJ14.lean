/-
  codec: appending numbers and bytes. codec: the reader. codec: reading numbers. codec: reading byte strings and bounded numbers. family: a family in the program's memory. Blocks of data, and writes of slots, in memory.
-/
import Derived.Test.YtbfdnfkflnajlaaGreatJ03
import Derived.Test.YtbfdnfkflnajlaaGreatJ05
import Derived.Test.YtbfdnfkflnajlaaGreatJ08
import Derived.Test.YtbfdnfkflnajlaaGreatJ09
import Derived.Test.YtbfdnfkflnajlaaGreatJ10
import Derived.Test.YtbfdnfkflnajlaaGreatJ13
import Derived.Maps.OwnSet
import Derived.Sort.KeysCollected
set_option linter.unusedVariables false
set_option linter.unusedSimpArgs false
/-! codec: appending numbers and bytes. -/
namespace Go.Proofs.YtbfdnfkflnajlaaGreat
open Go.RowKit
open Ext hiding One

theorem infoB : (Tryz.prog.info? 5).map (fun i => (i.zero, i.size, i.bytes)) = some (some (.int .u8 0), 1, 1) := by kernel_rfl
/-- the cells of bytes. -/
def bytC (l : List UInt8) : List Value := l.map fun b => .int .u8 b.toNat
theorem bytC_len (l : List UInt8) : (bytC l).length = l.length := by simp [bytC]
theorem bytC_app (a b : List UInt8) : bytC (a ++ b) = bytC a ++ bytC b := by simp [bytC]
theorem byt_one (l : List UInt8) : ∀ u ∈ bytC l, u.oneCell' = true := by
  intro u hu
  obtain ⟨b, _, rfl⟩ := List.mem_map.1 hu
  rfl
/-- bytes, read through a slice. -/
def Bys (w : World) (v : Value) (l : List UInt8) : Prop := Rows w 1 v l.length (bytC l)
theorem Bys.grw {w w' : World} {v : Value} {l : List UInt8} (hg : Grw w w') (h : Bys w v l) : Bys w' v l := Rows.grw hg h
/-- .. in a row of the call's own. -/
def OwnB (w : World) (base : Nat) (v : Value) (l : List UInt8) : Prop := w.ownsRow base 5 1 v l.length (bytC l)
theorem OwnB.bys {w : World} {base : Nat} {v : Value} {l : List UInt8} (h : OwnB w base v l) : Bys w v l := Rows.own h
theorem OwnB.nil (w : World) (base : Nat) : OwnB w base (.slice none 0 0) [] := ⟨by simp [bytC], .inl ⟨rfl, rfl⟩⟩
theorem OwnB.kept {w w' : World} {base : Nat} {v : Value} {l : List UInt8} (hg : Grw w w') (h : OwnB w base v l) : OwnB w' base v l :=
  World.ownsRow.kept h (hg.by none) (by cases v.ownBlock <;> simp)
theorem Bys.shape {w : World} {v : Value} {l : List UInt8} (h : Bys w v l) : ∃ A cap, v = .slice A l.length cap ∧ l.length ≤ cap ∧ cap ≤ maxLen ∧
    ∀ i x, l[i]? = some x → ∃ b off, A = some ⟨b, off, none⟩ ∧ w.cell? ⟨b, off + i, none⟩ = some (.int .u8 (x.toNat : Int)) := by
  obtain ⟨h1, h2⟩ := h
  rcases h2 with ⟨rfl, h0⟩ | ⟨b, off, cap, rfl, hc, hm, hcell⟩
  · refine ⟨none, 0, by rw [h0], by omega, by unfold maxLen; omega, fun i x hx => ?_⟩
    rw [List.getElem?_eq_none (by omega)] at hx
    cases hx
  · exact ⟨_, cap, rfl, hc, hm, fun i x hx => ⟨b, off, rfl, hcell _ _ (by simp [bytC, hx])⟩⟩
theorem own_baseB {w : World} {base : Nat} {v : Value} {l : List UInt8} (h : OwnB w base v l) : ∀ k, v.ownBlock = some k → base ≤ k := by
  intro k hk
  obtain ⟨h1, ⟨rfl, h0⟩ | ⟨g, cap, cur, rfl, hg, _⟩⟩ := h
  · cases hk
  · have : g = k := by injection hk
    omega
theorem own_grw {W0 w1 w2 : World} {v : Value} {base : Nat} {l : List UInt8} (hg : Grw W0 w1) (h : OwnB w1 base v l) (hb : W0.heap.size ≤ base) (k : w1.grownBy w2 v.ownBlock) : Grw W0 w2 :=
  show Below _ _ _ from Below.grown hg k hg.size (fun j e => by have := own_baseB h j e; omega)
/-- bytes of a row of the call's own come back. -/
def RetB (base : Nat) (l : List UInt8) (w : World) (e : Ending) (w' : World) : Prop := ∃ v, e = .returned v ∧ OwnB w' base v l ∧ Grw w w'

set_option maxRecDepth 100000 in
set_option maxHeartbeats 1000000 in
theorem clone_b_any {l : List UInt8} {v : Value} {W0 : World} (h : Bys W0 v l) (hn : l.length ≤ 4000000000) :
    Calls Tryz.prog 97 #[v] W0 (RetB W0.heap.size l W0) := by
  obtain ⟨i0, hi, hz0, hz1, hz2⟩ := info_parts infoB
  obtain ⟨h1, h2⟩ := h
  rcases h2 with ⟨rfl, h0⟩ | ⟨b, off, cap, rfl, hc, hm, hcell⟩
  · obtain rfl := List.eq_nil_of_length_eq_zero h0
    have hq : ∀ w, (binOp BinOp.eql 33 (.slice none 0 0) (.slice none 0 0)).run Tryz.prog w = .ok (.bool true) w := fun w => rfl
    go_enter Tryz.func97, Tryz.ntmps97
    go_wp2
    go_ret
    exact ⟨_, rfl, OwnB.nil _ _, Grw.self _⟩
  · have hq : ∀ w, (binOp BinOp.eql 33 (.slice (some ⟨b, off, none⟩) l.length cap) (.slice none 0 0)).run Tryz.prog w = .ok (.bool false) w := fun w => rfl
    have hown := World.ownsRow_lit (base := W0.heap.size) (e := 5) (size := 1) W0 #[] 0 (Nat.le_refl _) (by unfold maxLen; omega) rfl
    have hnews : ∀ j u, (bytC l)[j]? = some u → (W0.alloc (.cells #[] 5)).cell? ((⟨b, off, none⟩ : Addr).add j) = some u := fun j u hu => by rw [addr_add]; exact Grw.cell (hcell j u hu) _ (Grw.alloc _ _)
    have hfl : (bytC l).length = l.length * 1 := by simp [bytC]
    have hln : Aside (l.length ≤ 4000000000) := hn
    replace hnews : Aside (∀ j u, (bytC l)[j]? = some u → (W0.alloc (.cells #[] 5)).cell? ((⟨b, off, none⟩ : Addr).add j) = some u) := hnews
    replace hfl : Aside ((bytC l).length = l.length * 1) := hfl
    clear hcell h1
    go_enter Tryz.func97, Tryz.ntmps97
    go_wp2_with (at_builtin; refine wpList_append_own _ rfl _ _ 33 rfl W0.heap.size 5 i0 _ 1 1 Tryz.underlying33 hi hz0 hz1 hz2 rfl (by decide) _ 0 [] rfl hown ⟨b, off, none⟩ l.length cap (bytC l) rfl hfl.out hnews.out (byt_one l) (by have := hln.out; unfold maxLen; omega) (by have := hln.out; omega) (by simp) ?_; intro v' w1 hown1 hgrow _)
    go_ret
    refine ⟨_, rfl, ?_, ?_⟩
    · have := hown1
      rw [List.nil_append, Nat.zero_add] at this
      exact this
    · refine show Below _ _ _ from Below.grown (Grw.alloc W0 (.cells #[] 5)) hgrow (by simp) (fun k e => ?_)
      have e2 : some W0.heap.size = some k := e
      have : W0.heap.size = k := by injection e2
      omega
set_option maxRecDepth 100000 in
theorem u8_or : ∀ n : Nat, bits .or .u8 (IntKind.u8.wrap n) 128 = ((n % 128 + 128 : Nat) : Int) := by
  have key : ∀ m : Fin 256, bits .or .u8 (m.val : Int) 128 = ((m.val % 128 + 128 : Nat) : Int) := by decide
  intro n
  have e : IntKind.u8.wrap (n : Int) = (((⟨n % 256, Nat.mod_lt _ (by omega)⟩ : Fin 256).val : Nat) : Int) := by
    simp only [IntKind.wrap, IntKind.bits, IntKind.signed]; simp
  rw [e, key]
  simp only
  congr 1
  omega
theorem u8_or' (n : Nat) : bits .or .u8 ((n : Int) % 256) 128 = ((n % 128 + 128 : Nat) : Int) := by
  have h := u8_or n
  have e : IntKind.u8.wrap (n : Int) = (n : Int) % 256 := by simp only [IntKind.wrap, IntKind.bits, IntKind.signed]; simp
  rwa [e] at h
theorem u8_low {n : Nat} (h : n < 128) : IntKind.u8.wrap (n : Int) = n := by simp only [IntKind.wrap, IntKind.bits, IntKind.signed]; simp; omega
theorem byte_of {n : Nat} (h : n < 256) : Value.int .u8 (n : Int) = .int .u8 ((UInt8.ofNat n).toNat : Int) := by rw [toNat_of h]
theorem news1b (W : World) (c : Int) (x : UInt8) (hx : c = x.toNat) : ∀ j u, (bytC [x])[j]? = some u → (W.alloc (.cells #[.int .u8 c] 5)).cell? ((⟨W.heap.size, 0, none⟩ : Addr).add j) = some u := by
  have := World.news_of_block (w := W.alloc (.cells #[.int .u8 c] 5)) (cs := #[.int .u8 c]) (t := 5) (fr := (0, 0)) (heap_alloc_new _ _)
  simpa [bytC, hx] using this

set_option maxRecDepth 100000 in
set_option maxHeartbeats 1000000 in
theorem appendUint_any {l : List UInt8} {v : Value} {n : Nat} {W0 : World} (h : Bys W0 v l) (hn : l.length ≤ 3000000000) (hb : n < 9223372036854775808) :
    Calls Tryz.prog 87 #[v, .int .u64 n] W0 (RetB W0.heap.size (l ++ encU n) W0) := by
  obtain ⟨i0, hi, hz0, hz1, hz2⟩ := info_parts infoB
  have c1 := clone_b_any h (by omega)
  have hE : (encU n).length ≤ 9 := encU_len (k := 8) (by simp; omega)
  obtain ⟨E, hEd⟩ : ∃ E, encU n = E := ⟨_, rfl⟩
  rw [hEd] at hE ⊢
  replace hEd : Aside (encU n = E) := hEd
  obtain ⟨A, cap, rfl, -, -, -⟩ := h.shape
  clear h
  go_enter Tryz.func87, Tryz.ntmps87
  go_wp2_with (go_at_call 97; refine c1.mono ?_; clear c1; rintro e w1 ⟨v1, rfl, hown1, g1⟩)
  go_loopg [1, 5] n (fun g s1 s5 wr => ∃ (k : Nat) (done : List UInt8), g = k ∧ k ≤ n ∧ s1 = .int .u64 (k : Int) ∧ OwnB wr W0.heap.size s5 (l ++ done) ∧ E = done ++ encU k ∧ Grw W0 wr)
  case atStart => exact ⟨n, [], rfl, Nat.le_refl _, rfl, by simpa using hown1, by rw [← hEd.out]; rfl, g1⟩
  case round =>
    obtain ⟨k, done, hgk, hkn, rfl, hown, hdone, hg⟩ := hrel
    replace hgk := hgk.symm
    subst hgk
    by_cases hlt : k < 128
    · have hlk : Aside ((l ++ done).length ≤ 3000001000) := by
        have := congrArg List.length hdone
        rw [List.length_append] at this
        have h2 : (l ++ done).length ≤ 3000001000 := by rw [List.length_append]; omega
        exact h2
      have hw := u8_low hlt
      go_wp2_with (at_builtin; refine wpList_append_own _ rfl _ _ 33 rfl W0.heap.size 5 i0 _ 1 1 Tryz.underlying33 hi hz0 hz1 hz2 rfl (by decide) _ (l ++ done).length (bytC (l ++ done)) rfl (World.ownsRow.alloc hown _) ⟨wr.heap.size, 0, none⟩ 1 1 (bytC [UInt8.ofNat k]) rfl rfl (news1b wr _ _ (by rw [toNat_of (by omega)])) (byt_one _) (by have := hlk.out; unfold maxLen; omega) (by have := hlk.out; omega) (by have := hg.size; simp; omega) ?_; intro v' w2 hown2 hgrow _)
      go_ret
      refine ⟨_, rfl, ?_, ?_⟩
      · have e1 : (l ++ done ++ [UInt8.ofNat k]).length = (l ++ done).length + 1 := by simp; omega
        rw [hdone, encU_low hlt, ← List.append_assoc]
        unfold OwnB
        rw [bytC_app, e1]
        exact hown2
      · exact own_grw (hg.alc _) (OwnB.kept (Grw.alloc _ _) hown) (Nat.le_refl _) hgrow
    · have hlk : Aside ((l ++ done).length ≤ 3000001000) := by
        have := congrArg List.length hdone
        rw [List.length_append] at this
        have h2 : (l ++ done).length ≤ 3000001000 := by rw [List.length_append]; omega
        exact h2
      go_wp2_with (at_builtin; refine wpList_append_own _ rfl _ _ 33 rfl W0.heap.size 5 i0 _ 1 1 Tryz.underlying33 hi hz0 hz1 hz2 rfl (by decide) _ (l ++ done).length (bytC (l ++ done)) rfl (World.ownsRow.alloc hown _) ⟨wr.heap.size, 0, none⟩ 1 1 (bytC [UInt8.ofNat (k % 128 + 128)]) rfl rfl (news1b wr _ _ (by rw [toNat_of (by omega)]; exact u8_or' k)) (byt_one _) (by have := hlk.out; unfold maxLen; omega) (by have := hlk.out; omega) (by have := hg.size; simp; omega) ?_; intro v' w2 hown2 hgrow _)
      go_roundg (k / 128)
      case measure => omega
      case rel =>
        refine ⟨k / 128, done ++ [UInt8.ofNat (k % 128 + 128)], rfl, by omega, by simp, ?_, ?_, ?_⟩
        · have e1 : (l ++ done ++ [UInt8.ofNat (k % 128 + 128)]).length = (l ++ done).length + 1 := by simp; omega
          unfold OwnB
          rw [← List.append_assoc, bytC_app, e1]
          exact hown2
        · rw [hdone, encU_high hlt, List.append_assoc]; rfl
        · exact own_grw (hg.alc _) (OwnB.kept (Grw.alloc _ _) hown) (Nat.le_refl _) hgrow
end Go.Proofs.YtbfdnfkflnajlaaGreat

/-! codec: the reader. -/
namespace Go.Proofs.YtbfdnfkflnajlaaGreat
open Go.RowKit
open Ext hiding One

set_option maxRecDepth 100000 in
set_option maxHeartbeats 1000000 in
theorem appendBytes_any {l m : List UInt8} {v u : Value} {W0 : World} (h : Bys W0 v l) (hu : Bys W0 u m) (hn : l.length ≤ 1000000000) (hm : m.length ≤ 1000000000) (hm0 : m ≠ []) :
    Calls Tryz.prog 44 #[v, u] W0 (RetB W0.heap.size (l ++ encB m) W0) := by
  obtain ⟨i0, hi, hz0, hz1, hz2⟩ := info_parts infoB
  have c1 := appendUint_any (n := m.length) h (by omega) (by omega)
  have hE : (encU m.length).length ≤ 9 := encU_len (k := 8) (by simp; omega)
  have hp : l ++ encB m = l ++ encU m.length ++ m := by simp [encB]
  rw [hp]
  clear hp
  obtain ⟨L, hL⟩ : ∃ L, l ++ encU m.length = L := ⟨_, rfl⟩
  rw [hL] at c1 ⊢
  have hLn : Aside (L.length ≤ 1000000100) := by
    have h2 : L.length ≤ 1000000100 := by rw [← hL, List.length_append]; omega
    exact h2
  clear hL hE
  obtain ⟨A, cap, rfl, -, -, -⟩ := h.shape
  clear h
  obtain ⟨h1, h2⟩ := hu
  rcases h2 with ⟨rfl, h0⟩ | ⟨b, off, cap2, rfl, hc, hmx, hcell⟩
  · exact absurd (List.eq_nil_of_length_eq_zero h0) hm0
  have hmm : Aside (m.length ≤ 1000000000) := hm
  have hml : (m.length : Int) ≤ 9223372036854775807 := by omega
  replace hcell : ∀ B, Grw W0 B → Aside (∀ j u, (bytC m)[j]? = some u → B.cell? ((⟨b, off, none⟩ : Addr).add j) = some u) := fun B hB => (fun j u hu => by rw [addr_add]; exact Grw.cell (hcell j u hu) _ hB : ∀ j u, _ → _)
  replace h1 : Aside ((bytC m).length = m.length * 1) := h1
  replace hcell : Aside (∀ B, Grw W0 B → Aside (∀ j u, (bytC m)[j]? = some u → B.cell? ((⟨b, off, none⟩ : Addr).add j) = some u)) := hcell
  go_enter Tryz.func44, Tryz.ntmps44
  go_wp2_with first | (go_at_call 87; refine c1.mono ?_; clear c1; rintro e w1 ⟨v1, rfl, hown1, g1⟩) | (at_builtin; refine wpList_append_own _ rfl _ _ 33 rfl W0.heap.size 5 i0 _ 1 1 Tryz.underlying33 hi hz0 hz1 hz2 rfl (by decide) _ L.length (bytC L) rfl hown1 ⟨b, off, none⟩ m.length cap2 (bytC m) rfl h1.out (hcell.out _ g1).out (byt_one m) (by have := hLn.out; have := hmm.out; unfold maxLen; omega) (by have := hLn.out; have := hmm.out; omega) (by have := g1.size; omega) ?_; intro v' w2 hown2 hgrow _)
  go_ret
  refine ⟨_, rfl, ?_, ?_⟩
  · unfold OwnB
    rw [bytC_app, List.length_append]
    exact hown2
  · exact own_grw g1 hown1 (Nat.le_refl _) hgrow

/-- a reader at block p has these bytes yet to read. -/
def RdAt (w : World) (p : Nat) (bs : List UInt8) : Prop := ∃ v, w.heap[p]? = some (.cells #[v, .bool false] 182 (0, 0)) ∧ Bys w v bs
/-- .. has failed. -/
def RdBad (w : World) (p : Nat) : Prop := w.heap[p]? = some (.cells #[.slice none 0 0, .bool true] 182 (0, 0))
abbrev ptr (p : Nat) : Value := .pointer (some ⟨p, 0, none⟩)
/-- what is read stays, if it does not lie in the block that is written. -/
theorem Rows.setOther {w : World} {k n : Nat} {v u : Value} {cs : List Value} {p o : Nat} {C : Array Value} {t : TypeId} {fr : Nat × Nat} (hb : w.heap[p]? = some (.cells C t fr)) (hC : ∀ x ∈ C.toList, ∀ y ∈ cs, x ≠ y) (h : Rows w k v n cs) : Rows (w.setCell ⟨p, o, none⟩ u) k v n cs := by
  refine ⟨h.1, h.2.imp id ?_⟩
  rintro ⟨b, off, cap, hv, h1, h2, h3⟩
  refine ⟨b, off, cap, hv, h1, h2, fun j y hy => ?_⟩
  have hc := h3 j y hy
  have hne : b ≠ p := by
    rintro rfl
    rw [blk_cell hb] at hc
    have hm : y ∈ C.toList := by rw [← Array.getElem?_toList] at hc; exact List.mem_of_getElem? hc
    exact hC y hm y (List.mem_of_getElem? hy) rfl
  rw [← hc]
  exact World.cell?_of_block (w := w) (Below.heap_setCell _ _ _ _ hne)
theorem bytC_ne {l : List UInt8} {x y : Value} (hx : ∀ n, x ≠ .int .u8 n) (hy : y ∈ bytC l) : x ≠ y := by
  obtain ⟨b, _, rfl⟩ := List.mem_map.1 hy
  exact hx _
theorem Bys.setRd {w : World} {p : Nat} {v u s : Value} {l : List UInt8} {t : TypeId} {fr : Nat × Nat} {q : Bool} {o : Nat} (hb : w.heap[p]? = some (.cells #[s, .bool q] t fr)) (hs : ∀ n, s ≠ .int .u8 n) (h : Bys w v l) : Bys (w.setCell ⟨p, o, none⟩ u) v l :=
  Rows.setOther hb (fun x hx y hy => by
    simp only [List.mem_cons, List.not_mem_nil, or_false] at hx
    rcases hx with rfl | rfl
    · exact bytC_ne hs hy
    · exact bytC_ne (fun n => by simp) hy) h
/-- what a slice of slices reads as. -/
theorem Bys.take {w : World} {b off cap n : Nat} {l : List UInt8} (h : Bys w (.slice (some ⟨b, off, none⟩) l.length cap) l) (hn : n ≤ l.length) : Bys w (.slice (some ⟨b, off, none⟩) n n) (l.take n) := by
  obtain ⟨h1, h2⟩ := h
  rcases h2 with ⟨h, _⟩ | ⟨b', off', cap', hv, hc, hm, hcell⟩
  · cases h
  · injection hv with e1 e2 e3
    injection e1 with e1
    injection e1 with e1 e4
    subst e1; subst e4; subst e3
    have hl : (l.take n).length = n := by simp; omega
    refine ⟨by simp [bytC], .inr ⟨b, off, n, by rw [hl], by rw [hl]; exact Nat.le_refl _, by omega, fun j u hu => hcell j u ?_⟩⟩
    unfold bytC at hu ⊢
    rw [List.map_take, List.getElem?_take] at hu
    split at hu
    · exact hu
    · cases hu
theorem Bys.drop {w : World} {b off cap n : Nat} {l : List UInt8} (h : Bys w (.slice (some ⟨b, off, none⟩) l.length cap) l) (hn : n ≤ l.length) : Bys w (.slice (some ⟨b, off + n, none⟩) (l.length - n) (cap - n)) (l.drop n) := by
  obtain ⟨h1, h2⟩ := h
  rcases h2 with ⟨h, _⟩ | ⟨b', off', cap', hv, hc, hm, hcell⟩
  · cases h
  · injection hv with e1 e2 e3
    injection e1 with e1
    injection e1 with e1 e4
    subst e1; subst e4; subst e3
    have hl : (l.drop n).length = l.length - n := by simp
    refine ⟨by simp [bytC], .inr ⟨b, off + n, cap - n, by rw [hl], by rw [hl]; omega, by omega, fun j u hu => ?_⟩⟩
    unfold bytC at hu hcell
    rw [List.map_drop, List.getElem?_drop] at hu
    have := hcell _ u hu
    rwa [← Nat.add_assoc] at this
set_option maxRecDepth 100000 in
set_option maxHeartbeats 1000000 in
theorem fail_any {p : Nat} {s : Value} {q : Bool} {W0 : World} (hb : W0.heap[p]? = some (.cells #[s, .bool q] 182 (0, 0))) :
    Calls Tryz.prog 99 #[ptr p] W0 fun e w' => e = .returned (.int .i64 5) ∧ w' = (W0.setCell ⟨p, 0, none⟩ (.slice none 0 0)).setCell ⟨p, 1, none⟩ (.bool true) := by
  have d0 := blk_cell hb 0
  have d1 := blk_cell hb 1
  have f0 := blk_free hb 0
  have f1 := blk_free hb 1
  go_enter Tryz.func99, Tryz.ntmps99
  go_wp2
  go_ret
  exact ⟨rfl, rfl⟩
/-- some bytes come back, the reader's rest is written. -/
def RetTake (p : Nat) (a b : List UInt8) (w : World) (e : Ending) (w' : World) : Prop := ∃ v1 v2, e = .returned (.tuple #[v1, .int .i64 0]) ∧ w' = w.setCell ⟨p, 0, none⟩ v2 ∧ Bys w v1 a ∧ Bys w v2 b
theorem Bys.none {w : World} {b off m : Nat} {l : List UInt8} (hm : m = 0) (hl : l = []) : Bys w (.slice (some ⟨b, off, none⟩) m 0) l := by
  subst hm; subst hl
  exact ⟨by simp [bytC], .inr ⟨b, off, 0, rfl, Nat.le_refl _, Nat.zero_le _, fun j u hu => by simp [bytC] at hu⟩⟩
set_option maxRecDepth 100000 in
set_option maxHeartbeats 1000000 in
theorem take_any {p n : Nat} {s : Value} {bs : List UInt8} {W0 : World} (hb : W0.heap[p]? = some (.cells #[s, .bool false] 182 (0, 0))) (hs : Bys W0 s bs) (hn : n ≤ bs.length) (hl : bs.length ≤ 1000000) :
    Calls Tryz.prog 98 #[ptr p, .int .u64 n] W0 (RetTake p (bs.take n) (bs.drop n) W0) := by
  have d0 := blk_cell hb 0
  have d1 := blk_cell hb 1
  have f0 := blk_free hb 0
  have f1 := blk_free hb 1
  have hs0 := hs
  obtain ⟨h1, h2⟩ := hs
  rcases h2 with ⟨rfl, h0⟩ | ⟨b, off, cap, rfl, hc, hm, hcell⟩
  · obtain rfl := List.eq_nil_of_length_eq_zero h0
    obtain rfl : n = 0 := by simpa using hn
    clear hs0
    go_enter Tryz.func98, Tryz.ntmps98
    go_wp2
    refine bodyPost_ret (v := .tuple #[.slice none 0 0, .int .i64 0]) (by simp [results, Tryz.results98, go_sem]) rfl ⟨_, _, rfl, rfl, Rows.nil _ _, Rows.nil _ _⟩
  · have k1 := hs0.take hn
    have k2 := hs0.drop hn
    replace k1 : Aside (Bys W0 (.slice (some ⟨b, off, none⟩) n n) (bs.take n)) := k1
    replace k2 : Aside (Bys W0 (.slice (some ⟨b, off + n, none⟩) (bs.length - n) (cap - n)) (bs.drop n)) := k2
    clear hs0 hcell h1
    unfold maxLen at hm
    go_enter Tryz.func98, Tryz.ntmps98
    go_wp2
    · have h0 : bs.length - n = 0 := by omega
      refine bodyPost_ret (v := .tuple #[.slice (some ⟨b, off, none⟩) n n, .int .i64 0]) (by simp [results, Tryz.results98, go_sem]) rfl ⟨_, _, rfl, rfl, k1.out, Bys.none h0 (List.drop_eq_nil_of_le (by omega))⟩
    · refine bodyPost_ret (v := .tuple #[.slice (some ⟨b, off, none⟩) n n, .int .i64 0]) (by simp [results, Tryz.results98, go_sem]) rfl ⟨_, _, rfl, rfl, k1.out, k2.out⟩
end Go.Proofs.YtbfdnfkflnajlaaGreat

/-! codec: reading numbers. -/
namespace Go.Proofs.YtbfdnfkflnajlaaGreat
open Go.RowKit
open Ext hiding One

abbrev atP (p : Nat) : Nat → Prop := fun k => k = p
theorem RdAt.low {w : World} {p : Nat} {bs : List UInt8} (h : RdAt w p bs) : p < w.heap.size := by
  obtain ⟨v, hb, _⟩ := h
  exact (Array.getElem?_eq_some_iff.1 hb).1
theorem RdAt.grw {w w' : World} {p : Nat} {bs : List UInt8} (hg : Grw w w') (h : RdAt w p bs) : RdAt w' p bs := by
  obtain ⟨v, hb, hs⟩ := h
  exact ⟨v, hg.blk hb, hs.grw hg⟩
theorem RdAt.step {w : World} {p : Nat} {bs rest : List UInt8} {s v2 : Value} (hb : w.heap[p]? = some (.cells #[s, .bool false] 182 (0, 0))) (hs : Bys w s bs) (h : Bys w v2 rest) : RdAt (w.setCell ⟨p, 0, none⟩ v2) p rest := by
  refine ⟨v2, by simpa using setCell_blk hb 0 v2, Bys.setRd hb (fun n => ?_) h⟩
  obtain ⟨A, cap, rfl, -⟩ := hs.shape
  simp
theorem u64_and {c : Nat} (h : c < 256) : bits .and .u64 (c : Int) 127 = ((c % 128 : Nat) : Int) := by
  have key : ∀ m : Fin 256, bits .and .u64 (m.val : Int) 127 = ((m.val % 128 : Nat) : Int) := by decide +kernel
  exact key ⟨c, h⟩
theorem u64_or {a b k : Nat} (h : a < 2 ^ k) (hb : a + b * 2 ^ k < 2 ^ 64) : bits .or .u64 (a : Int) ((b * 2 ^ k : Nat) : Int) = ((a + b * 2 ^ k : Nat) : Int) := by
  have e : a + b * 2 ^ k = (b * 2 ^ k) ||| a := by
    rw [← Nat.shiftLeft_eq, ← Nat.shiftLeft_add_eq_or_of_lt h, Nat.add_comm]
  have ha : a < 2 ^ 64 := by omega
  have hb2 : b * 2 ^ k < 2 ^ 64 := by omega
  have hw : ∀ n : Nat, n < 2 ^ 64 → IntKind.u64.wrap (n : Int) = n := by
    intro n hn
    simp only [IntKind.wrap, IntKind.bits, IntKind.signed]; simp; omega
  show IntKind.u64.wrap ((BitVec.ofInt 64 (a : Int) ||| BitVec.ofInt 64 ((b * 2 ^ k : Nat) : Int)).toNat : Int) = _
  rw [BitVec.toNat_or]
  rw [show (BitVec.ofInt 64 (a : Int)).toNat = a by simp only [BitVec.ofInt_natCast, BitVec.toNat_ofNat]; exact Nat.mod_eq_of_lt ha,
    show (BitVec.ofInt 64 ((b * 2 ^ k : Nat) : Int)).toNat = b * 2 ^ k by simp only [BitVec.ofInt_natCast, BitVec.toNat_ofNat]; exact Nat.mod_eq_of_lt hb2]
  rw [Nat.or_comm, ← e, hw _ hb]
theorem u64_shl {c i : Nat} (h : c * 2 ^ (7 * i) < 2 ^ 64) : IntKind.u64.wrap ((c : Int) * 2 ^ (7 * (i : Int)).toNat) = ((c * 2 ^ (7 * i) : Nat) : Int) := by
  have e : (7 * (i : Int)).toNat = 7 * i := by omega
  rw [e]
  have e2 : (c : Int) * 2 ^ (7 * i) = ((c * 2 ^ (7 * i) : Nat) : Int) := by simp
  rw [e2]
  generalize c * 2 ^ (7 * i) = m at h ⊢
  simp only [IntKind.wrap, IntKind.bits, IntKind.signed]; simp; omega

theorem lt64 {i acc c : Nat} (hi : i ≤ 9) (ha : acc < 2 ^ (7 * i)) (hc : c < 128) (h9 : ¬ (i = 9 ∧ 1 < c)) : acc + c * 2 ^ (7 * i) < 2 ^ 64 := by
  rcases Nat.lt_or_eq_of_le hi with h | rfl
  · have h1 : c * 2 ^ (7 * i) ≤ 127 * 2 ^ (7 * i) := Nat.mul_le_mul_right _ (by omega)
    have h2 : 2 ^ (7 * i) ≤ 2 ^ 56 := Nat.pow_le_pow_right (by omega) (by omega)
    omega
  · have : c ≤ 1 := by omega
    have h1 : c * 2 ^ (7 * 9) ≤ 1 * 2 ^ (7 * 9) := Nat.mul_le_mul_right _ this
    omega
theorem one_byte {w : World} {p : Nat} {bs : List UInt8} {s v1 v2 : Value} {c : UInt8} (hb : w.heap[p]? = some (.cells #[s, .bool false] 182 (0, 0))) (hs : Bys w s bs) (h : Bys w v1 [c]) :
    ∃ b o cap, v1 = .slice (some ⟨b, o, none⟩) 1 cap ∧ 1 ≤ cap ∧ (w.setCell ⟨p, 0, none⟩ v2).cell? ⟨b, o, none⟩ = some (.int .u8 (c.toNat : Int)) := by
  obtain ⟨A0, cap0, rfl, -⟩ := hs.shape
  have h2 := Bys.setRd (u := v2) (o := 0) hb (fun n => by simp) h
  obtain ⟨A, cap, rfl, hc, -, hx⟩ := h2.shape
  obtain ⟨b, o, rfl, p1⟩ := hx 0 c rfl
  exact ⟨b, o, cap, rfl, hc, by simpa using p1⟩
/-- a number was read. -/
def RetU (p n : Nat) (rest : List UInt8) (w : World) (e : Ending) (w' : World) : Prop := e = .returned (.tuple #[.int .u64 n, .int .i64 0]) ∧ RdAt w' p rest ∧ GrwX (atP p) w w'
set_option maxRecDepth 100000 in
set_option maxHeartbeats 1000000 in
theorem uint_any {p n : Nat} {bs rest : List UInt8} {W0 : World} (h : RdAt W0 p bs) (hl : bs.length ≤ 1000000) (hr : readU bs = some (n, rest)) :
    Calls Tryz.prog 52 #[ptr p] W0 (RetU p n rest W0) := by
  go_enter Tryz.func52, Tryz.ntmps52
  go_wp2
  go_loopg [4, 9] 10 (fun g s4 s9 wr => ∃ (i acc : Nat) (bs' : List UInt8), g = 10 - i ∧ i ≤ 9 ∧ s9 = .int .i64 i ∧ s4 = .int .u64 (acc : Int) ∧ acc < 2 ^ (7 * i) ∧ RdAt wr p bs' ∧ bs'.length ≤ 1000000 ∧ readG (10 - i) i acc bs' = some (n, rest) ∧ GrwX (atP p) W0 wr)
  case atStart => exact ⟨0, 0, bs, rfl, by omega, rfl, rfl, by simp, h, hl, hr, GrwX.self _ _⟩
  case round =>
    obtain ⟨i, acc, bs', rfl, hi, rfl, rfl, hacc, hrd, hl', hread, hg⟩ := hrel
    obtain ⟨s, hb, hs⟩ := hrd
    rw [show 10 - i = (9 - i) + 1 by omega] at hread
    cases bs' with
    | nil => cases hread
    | cons c r =>
      have c1 := take_any (n := 1) hb hs (by simp) hl'
      simp only [List.take_succ_cons, List.take_zero, List.drop_succ_cons, List.drop_zero] at c1
      change Calls _ _ #[ptr p, .int .u64 1] _ _ at c1
      simp only [readG] at hread
      have hc := c.toNat_lt
      have ha := u64_and (c := c.toNat) (by omega)
      by_cases h9 : i = 9 ∧ 1 < c.toNat
      · rw [if_pos h9] at hread; cases hread
      · rw [if_neg h9] at hread
        by_cases hlt : c.toNat < 128
        · rw [if_pos hlt] at hread
          by_cases h0 : c.toNat = 0 ∧ 0 < i
          · rw [if_pos h0] at hread; cases hread
          · rw [if_neg h0] at hread
            injection hread with hread
            injection hread with hn hr'
            subst hr'
            have e1 : c.toNat % 128 = c.toNat := Nat.mod_eq_of_lt hlt
            rw [e1] at ha
            have hlt64 : acc + c.toNat * 2 ^ (7 * i) < 2 ^ 64 := lt64 hi hacc hlt h9
            have hsh := u64_shl (c := c.toNat) (i := i) (by omega)
            have hor := u64_or hacc hlt64
            rw [hn] at hor
            obtain ⟨C2, hC2⟩ : ∃ C2 : Int, ((c.toNat * 2 ^ (7 * i) : Nat) : Int) = C2 := ⟨_, rfl⟩
            rw [hC2] at hsh hor
            replace hC2 : Aside (((c.toNat * 2 ^ (7 * i) : Nat) : Int) = C2) := hC2
            clear hacc hlt64 hn e1
            by_cases hi9 : i = 9
            · subst hi9
              have hc1 : ¬ 1 < c.toNat := fun h => h9 ⟨rfl, h⟩
              have hc0 : ¬ c.toNat = 0 := fun h => h0 ⟨h, by omega⟩
              clear h9 h0
              have hC9 : C2 = (c.toNat : Int) * 9223372036854775808 := by rw [← hC2.out]; simp
              rw [hC9] at hor
              clear hsh hC9 hC2
              go_wp2_with (go_at_call 98; refine c1.mono ?_; clear c1; rintro e w2 ⟨v1, v2, rfl, rfl, k1, k2⟩; obtain ⟨b1, o1, cap1, rfl, hcap1, p1⟩ := one_byte (v2 := v2) hb hs k1; have hrd2 := RdAt.step hb hs k2; clear k1 k2)
              all_goals refine bodyPost_ret (v := .tuple #[.int .u64 n, .int .i64 0]) (by simp [results, Tryz.results52, go_sem]) rfl ⟨rfl, hrd2, hg.set (p := ⟨p, 0, none⟩) rfl v2⟩
            · have hi9' : ¬ (i : Int) = 9 := by omega
              clear h9
              go_wp2_with (go_at_call 98; refine c1.mono ?_; clear c1; rintro e w2 ⟨v1, v2, rfl, rfl, k1, k2⟩; obtain ⟨b1, o1, cap1, rfl, hcap1, p1⟩ := one_byte (v2 := v2) hb hs k1; have hrd2 := RdAt.step hb hs k2; clear k1 k2)
              all_goals refine bodyPost_ret (v := .tuple #[.int .u64 n, .int .i64 0]) (by simp [results, Tryz.results52, go_sem]) rfl ⟨rfl, hrd2, hg.set (p := ⟨p, 0, none⟩) rfl v2⟩
        · rw [if_neg hlt] at hread
          have hi9 : ¬ i = 9 := fun h => h9 ⟨h, by omega⟩
          have hi9' : ¬ (i : Int) = 9 := by omega
          clear h9
          have hlt64 : acc + c.toNat % 128 * 2 ^ (7 * i) < 2 ^ 64 := lt64 hi hacc (Nat.mod_lt _ (by omega)) (fun h => hi9 h.1)
          have hsh := u64_shl (c := c.toNat % 128) (i := i) (by omega)
          have hor := u64_or hacc hlt64
          have hacc2 : acc + c.toNat % 128 * 2 ^ (7 * i) < 2 ^ (7 * (i + 1)) := by
            have h1 : c.toNat % 128 * 2 ^ (7 * i) ≤ 127 * 2 ^ (7 * i) := Nat.mul_le_mul_right _ (by omega)
            rw [Nat.mul_add, Nat.pow_add, show (2 : Nat) ^ (7 * 1) = 128 from rfl]
            omega
          obtain ⟨N2, hN2⟩ : ∃ N2, acc + c.toNat % 128 * 2 ^ (7 * i) = N2 := ⟨_, rfl⟩
          rw [hN2] at hread hor hacc2
          obtain ⟨C2, hC2⟩ : ∃ C2 : Int, ((c.toNat % 128 * 2 ^ (7 * i) : Nat) : Int) = C2 := ⟨_, rfl⟩
          obtain ⟨cm, hcm⟩ : ∃ cm : Nat, c.toNat % 128 = cm := ⟨_, rfl⟩
          rw [hC2] at hsh hor
          rw [hcm] at hsh ha
          clear hC2 hN2 hlt64 hcm hacc
          replace hacc2 : Aside (N2 < 2 ^ (7 * (i + 1))) := hacc2
          replace hread : Aside (readG (9 - i) (i + 1) N2 r = some (n, rest)) := hread
          go_wp2_with (go_at_call 98; refine c1.mono ?_; clear c1; rintro e w2 ⟨v1, v2, rfl, rfl, k1, k2⟩; obtain ⟨b1, o1, cap1, rfl, hcap1, p1⟩ := one_byte (v2 := v2) hb hs k1; have hrd2 := RdAt.step hb hs k2; clear k1 k2)
          go_roundg (10 - (i + 1))
          case measure => omega
          case rel => exact ⟨i + 1, N2, r, rfl, by omega, rfl, rfl, hacc2.out, hrd2, by simp only [List.length_cons] at hl'; omega, by rw [show 10 - (i + 1) = 9 - i by omega]; exact hread.out, hg.set (p := ⟨p, 0, none⟩) rfl v2⟩
end Go.Proofs.YtbfdnfkflnajlaaGreat

/-! codec: reading byte strings and bounded numbers. -/
namespace Go.Proofs.YtbfdnfkflnajlaaGreat
open Go.RowKit
open Ext hiding One

theorem RdAt.len {w : World} {p : Nat} {bs : List UInt8} (h : RdAt w p bs) : True := trivial
theorem readU_lt {bs r : List UInt8} {n : Nat} (h : readU bs = some (n, r)) : r.length < bs.length := readG_lt _ _ _ _ h
def RetBy (p : Nat) (b rest : List UInt8) (w : World) (e : Ending) (w' : World) : Prop := ∃ v, e = .returned (.tuple #[v, .int .i64 0]) ∧ Bys w' v b ∧ RdAt w' p rest ∧ GrwX (atP p) w w'
set_option maxRecDepth 100000 in
set_option maxHeartbeats 1000000 in
theorem bytes_any {p : Nat} {bs b rest : List UInt8} {W0 : World} (h : RdAt W0 p bs) (hl : bs.length ≤ 1000000) (hr : readB bs = some (b, rest)) :
    Calls Tryz.prog 153 #[ptr p] W0 (RetBy p b rest W0) := by
  unfold readB at hr
  split at hr
  · cases hr
  · rename_i n r hu
    split at hr
    · rename_i hn
      injection hr with hr
      injection hr with e1 e2
      subst e1; subst e2
      have hlt := readU_lt hu
      have c1 := uint_any h hl hu
      have c2 := fun (w : World) (hw : RdAt w p r) => show Calls Tryz.prog 98 #[ptr p, .int .u64 n] w (RetBy p (r.take n) (r.drop n) w) by
        obtain ⟨s, hb, hs⟩ := hw
        refine (take_any hb hs hn (by omega)).mono ?_
        rintro e w' ⟨v1, v2, rfl, rfl, k1, k2⟩
        obtain ⟨A0, cap0, e0, -⟩ := hs.shape
        exact ⟨v1, rfl, Bys.setRd hb (fun n => by rw [e0]; simp) k1, RdAt.step hb hs k2, GrwX.set (X := atP p) (p := ⟨p, 0, none⟩) (GrwX.self _ _) rfl v2⟩
      go_enter Tryz.func153, Tryz.ntmps153
      go_wp2_with first | (go_at_call 52; refine c1.mono ?_; clear c1; rintro e w1 ⟨rfl, hrd1, g1⟩) | (go_at_call 98; refine (c2 _ hrd1).mono ?_; rintro e w2 ⟨v1, rfl, hb2, hrd2, g2⟩)
      refine bodyPost_ret (v := .tuple #[v1, .int .i64 0]) (by simp [results, Tryz.results153, go_sem]) rfl ⟨v1, rfl, hb2, hrd2, g1.then g2⟩
    · cases hr
def RetN (p : Nat) (n : Int) (rest : List UInt8) (w : World) (e : Ending) (w' : World) : Prop := e = .returned (.tuple #[.int .i64 n, .int .i64 0]) ∧ RdAt w' p rest ∧ GrwX (atP p) w w'
set_option maxRecDepth 100000 in
set_option maxHeartbeats 1000000 in
theorem count_any {p : Nat} {bs rest : List UInt8} {n : Int} {W0 : World} (h : RdAt W0 p bs) (hl : bs.length ≤ 1000000) (hr : readC bs = some (n, rest)) :
    Calls Tryz.prog 154 #[ptr p, .int .i64 65536] W0 (RetN p n rest W0) := by
  unfold readC at hr
  split at hr
  · cases hr
  · rename_i m r hu
    split at hr
    · rename_i hn
      injection hr with hr
      injection hr with e1 e2
      subst e1; subst e2
      have c1 := uint_any h hl hu
      go_enter Tryz.func154, Tryz.ntmps154
      go_wp2_with (go_at_call 52; refine c1.mono ?_; clear c1; rintro e w1 ⟨rfl, hrd1, g1⟩)
      refine bodyPost_ret (v := .tuple #[.int .i64 m, .int .i64 0]) (by simp [results, Tryz.results154, go_sem]) rfl ⟨rfl, hrd1, g1⟩
    · cases hr
set_option maxRecDepth 100000 in
set_option maxHeartbeats 1000000 in
theorem done_any {p : Nat} {bs : List UInt8} {W0 : World} (h : RdAt W0 p bs) :
    Calls Tryz.prog 55 #[ptr p] W0 fun e w' => e = .returned (.int .i64 (if bs = [] then 0 else 5)) ∧ w' = W0 := by
  obtain ⟨s, hb, hs⟩ := h
  have d0 := blk_cell hb 0
  have d1 := blk_cell hb 1
  obtain ⟨A, cap, rfl, hc, hm, -⟩ := hs.shape
  cases bs with
  | nil =>
    rw [if_pos rfl]
    go_enter Tryz.func55, Tryz.ntmps55
    go_wp2
    go_ret
    exact ⟨rfl, rfl⟩
  | cons c r =>
    rw [if_neg (by simp)]
    unfold maxLen at hm
    simp only [List.length_cons] at hc d0
    have h1 : (0 : Int) < ((r.length + 1 : Nat) : Int) := by omega
    go_enter Tryz.func55, Tryz.ntmps55
    go_wp2
    go_ret
    exact ⟨rfl, rfl⟩
set_option maxRecDepth 100000 in
set_option maxHeartbeats 1000000 in
theorem new_rd_any {v : Value} {bs : List UInt8} {W0 : World} (h : Bys W0 v bs) (hl : bs.length ≤ 1000000) :
    Calls Tryz.prog 51 #[v] W0 fun e w' => ∃ p, e = .returned (ptr p) ∧ W0.heap.size ≤ p ∧ RdAt w' p bs ∧ Grw W0 w' := by
  have c1 := clone_b_any h (by omega)
  obtain ⟨A, cap, rfl, -, -, -⟩ := h.shape
  clear h
  go_enter Tryz.func51, Tryz.ntmps51
  go_wp2_with (go_at_call 97; refine c1.mono ?_; clear c1; rintro e w1 ⟨v1, rfl, hown1, g1⟩; have hb1 := OwnB.bys hown1; obtain ⟨A1, cap1, rfl, -, -, -⟩ := hb1.shape)
  go_ret
  exact ⟨_, rfl, g1.size, ⟨_, alloc_blk _ _, hb1.grw (Grw.alloc _ _)⟩, g1.alc _⟩
end Go.Proofs.YtbfdnfkflnajlaaGreat

/-! family: a family in the program's memory. -/
namespace Go.Proofs.YtbfdnfkflnajlaaGreat
open Go.RowKit
open Ext hiding One

/-- a map's element is what it is. -/
def Rv (v : Value) : Option (DataW Value × List MemPlace) := some (.held v, [])
abbrev strV (s : List UInt8) : Value := .string ⟨s.toArray⟩
theorem lawS : Maps.Keyed Tryz.prog 9 := Maps.string_keyed Tryz.underlying9
theorem keyS {s : List UInt8} (h : s.length ≤ 1000000) : keyOf Tryz.prog 9 (strV s) = some (.string s) := by
  have := WideMaps.keyOf_string_mk (P := Tryz.prog) (k := 9) Tryz.underlying9 (s := ⟨s.toArray⟩) (by unfold maxLen; simp [ByteArray.size]; omega)
  simpa using this
theorem keyLitS (s : List UInt8) : WideAt.IsKeyLit (.string s) := by simp [WideAt.IsKeyLit]
theorem zeroVol (w : World) : (zeroValue 170).run Tryz.prog w = .ok (volV 0 0 none) w := by kernel_rfl
/-- a datum has these volumes by their names. -/
def DatF (w : World) (D : DataW Value) (vs : List Vol) : Prop :=
  Maps.size D = vs.length ∧ (∀ nm, Maps.has D (.string nm) = (getV vs nm).isSome) ∧ ∀ nm v, getV vs nm = some v → ∃ p t, (∀ z, D.atKey (.string nm) z = .held (volV v.n v.res p)) ∧ IsT w p t ∧ t.toL = v.l
/-- a map holds these volumes. -/
def MapF (w : World) (mp : Option Nat) (vs : List Vol) : Prop :=
  (mp = none ∧ vs = []) ∨ ∃ b D, mp = some b ∧ w.ownsMap Tryz.prog 9 Rv b vs.length D ∧ DatF w D vs
abbrev famV (s : Value) (mp : Option Nat) : Value := .agg #[s, .map mp]
/-- a family lies in memory. -/
def FamR (w : World) (v : Value) (f : Fam) : Prop := ∃ s mp, v = famV s mp ∧ Ints w s f.cs ∧ MapF w mp f.vols
theorem DatF.grw {w w' : World} {D : DataW Value} {vs : List Vol} (hg : Grw w w') (h : DatF w D vs) : DatF w' D vs := by
  obtain ⟨h1, h2, h3⟩ := h
  refine ⟨h1, h2, fun nm v hv => ?_⟩
  obtain ⟨p, t, k1, k2, k3⟩ := h3 nm v hv
  exact ⟨p, t, k1, k2.grw hg, k3⟩
theorem MapF.grw {w w' : World} {mp : Option Nat} {vs : List Vol} (hg : Grw w w') (h : MapF w mp vs) : MapF w' mp vs := by
  rcases h with h | ⟨b, D, rfl, ho, hd⟩
  · exact .inl h
  · exact .inr ⟨b, D, rfl, ho.kept (hg.by none) (by simp), hd.grw hg⟩
theorem FamR.grw {w w' : World} {v : Value} {f : Fam} (hg : Grw w w') (h : FamR w v f) : FamR w' v f := by
  obtain ⟨s, mp, rfl, h1, h2⟩ := h
  exact ⟨s, mp, rfl, h1.grw hg, h2.grw hg⟩
/-- a look at a map. -/
theorem MapF.look {w : World} {mp : Option Nat} {vs : List Vol} {nm : List UInt8} (hn : nm.length ≤ 1000000) (h : MapF w mp vs) :
    (getV vs nm = none ∧ ∀ B, Grw w B → (Instr.lookup 74 (.map mp) (strV nm) true).run Tryz.prog B = .ok (.tuple #[volV 0 0 none, .bool false]) B) ∨
    ∃ v p t, getV vs nm = some v ∧ IsT w p t ∧ t.toL = v.l ∧ ∀ B, Grw w B → (Instr.lookup 74 (.map mp) (strV nm) true).run Tryz.prog B = .ok (.tuple #[volV v.n v.res p, .bool true]) B := by
  rcases h with ⟨rfl, rfl⟩ | ⟨b, D, rfl, ho, hd⟩
  · exact .inl ⟨rfl, fun B hB => by
      have := Maps.look_nil (w := B) (P := Tryz.prog) true lawS Tryz.underlying74 (zeroVol B) (keyS hn)
      simpa using this⟩
  · cases hv : getV vs nm with
    | none =>
      refine .inl ⟨rfl, fun B hB => ?_⟩
      have hhas := hd.2.1 nm
      rw [hv] at hhas
      obtain ⟨v, ps, hrun, hR⟩ := (ho.kept (hB.by none) (by simp)).look_ok lawS Tryz.underlying74 (zeroVol B) (zd := .held (volV 0 0 none)) (zp := []) rfl (keyS hn)
      rw [hhas] at hrun
      rw [Maps.atKey_of_not_has hhas] at hR
      simp only [Rv, Option.some.injEq, Prod.mk.injEq, DataW.held.injEq] at hR
      obtain ⟨rfl, -⟩ := hR
      exact hrun
    | some v =>
      obtain ⟨p, t, k1, k2, k3⟩ := hd.2.2 nm v hv
      refine .inr ⟨v, p, t, rfl, k2, k3, fun B hB => ?_⟩
      have hhas := hd.2.1 nm
      rw [hv] at hhas
      obtain ⟨u, ps, hrun, hR⟩ := (ho.kept (hB.by none) (by simp)).look_ok lawS Tryz.underlying74 (zeroVol B) (zd := .held (volV 0 0 none)) (zp := []) rfl (keyS hn)
      rw [hhas] at hrun
      rw [k1] at hR
      simp only [Rv, Option.some.injEq, Prod.mk.injEq, DataW.held.injEq] at hR
      obtain ⟨rfl, -⟩ := hR
      exact hrun
end Go.Proofs.YtbfdnfkflnajlaaGreat

/-! Blocks of data, and writes of slots, in memory. -/
namespace Go.Proofs.YtbfdnfkflnajlaaGreat
open Go.RowKit
open Ext hiding One

/-- a block's bytes. -/
structure Blk where
  a0 : UInt8
  a1 : UInt8
  a2 : UInt8
  a3 : UInt8
  a4 : UInt8
  a5 : UInt8
  a6 : UInt8
  a7 : UInt8
deriving DecidableEq, Inhabited
abbrev u8V (b : UInt8) : Value := .int .u8 b.toNat
def blkC (b : Blk) : List Value := [u8V b.a0, u8V b.a1, u8V b.a2, u8V b.a3, u8V b.a4, u8V b.a5, u8V b.a6, u8V b.a7]
theorem blkC_len (b : Blk) : (blkC b).length = 8 := rfl
/-- blocks, read through a slice. -/
def Blks (w : World) (v : Value) (l : List Blk) : Prop := Rows w 8 v l.length (flat blkC l)
theorem Blks.grw {w w' : World} {v : Value} {l : List Blk} (hg : Grw w w') (h : Blks w v l) : Blks w' v l := Rows.grw hg h
theorem Blks.shape {w : World} {v : Value} {l : List Blk} (h : Blks w v l) : ∃ A cap, v = .slice A l.length cap ∧ l.length ≤ cap ∧ cap ≤ maxLen ∧
    ∀ i x, l[i]? = some x → ∃ b off, A = some ⟨b, off, none⟩ ∧ (w.cell? ⟨b, off + i * 8, none⟩ = some (u8V x.a0) ∧ w.cell? ⟨b, off + i * 8 + 1, none⟩ = some (u8V x.a1) ∧ w.cell? ⟨b, off + i * 8 + 2, none⟩ = some (u8V x.a2) ∧ w.cell? ⟨b, off + i * 8 + 3, none⟩ = some (u8V x.a3)) ∧
      w.cell? ⟨b, off + i * 8 + 4, none⟩ = some (u8V x.a4) ∧ w.cell? ⟨b, off + i * 8 + 5, none⟩ = some (u8V x.a5) ∧ w.cell? ⟨b, off + i * 8 + 6, none⟩ = some (u8V x.a6) ∧ w.cell? ⟨b, off + i * 8 + 7, none⟩ = some (u8V x.a7) := by
  obtain ⟨h1, h2⟩ := h
  rcases h2 with ⟨rfl, h0⟩ | ⟨b, off, cap, rfl, hc, hm, hcell⟩
  · refine ⟨none, 0, by rw [h0], by omega, by unfold maxLen; omega, fun i x hx => ?_⟩
    rw [List.getElem?_eq_none (by omega)] at hx
    cases hx
  · refine ⟨_, cap, rfl, hc, hm, fun i x hx => ⟨b, off, rfl, ⟨?_, ?_, ?_, ?_⟩, ?_, ?_, ?_, ?_⟩⟩
    · exact hcell _ _ (by rw [← Nat.add_zero (i * 8), flat_get blkC_len l i x 0 hx (by omega)]; rfl)
    · exact hcell _ _ (by rw [flat_get blkC_len l i x 1 hx (by omega)]; rfl)
    · exact hcell _ _ (by rw [flat_get blkC_len l i x 2 hx (by omega)]; rfl)
    · exact hcell _ _ (by rw [flat_get blkC_len l i x 3 hx (by omega)]; rfl)
    · exact hcell _ _ (by rw [flat_get blkC_len l i x 4 hx (by omega)]; rfl)
    · exact hcell _ _ (by rw [flat_get blkC_len l i x 5 hx (by omega)]; rfl)
    · exact hcell _ _ (by rw [flat_get blkC_len l i x 6 hx (by omega)]; rfl)
    · exact hcell _ _ (by rw [flat_get blkC_len l i x 7 hx (by omega)]; rfl)
/-- a write of a slot. -/
structure Wr where
  slot : Int
  data : Blk
deriving DecidableEq, Inhabited
def wrC (x : Wr) : List Value := .int .i64 x.slot :: blkC x.data
theorem wrC_len (x : Wr) : (wrC x).length = 9 := rfl
/-- writes, read through a slice. -/
def Wrs (w : World) (v : Value) (l : List Wr) : Prop := Rows w 9 v l.length (flat wrC l)
theorem Wrs.grw {w w' : World} {v : Value} {l : List Wr} (hg : Grw w w') (h : Wrs w v l) : Wrs w' v l := Rows.grw hg h
/-- .. in a row of the call's own. -/
def OwnW (w : World) (base : Nat) (v : Value) (l : List Wr) : Prop := w.ownsRow base 86 9 v l.length (flat wrC l)
theorem OwnW.wrs {w : World} {base : Nat} {v : Value} {l : List Wr} (h : OwnW w base v l) : Wrs w v l := Rows.own h
theorem OwnW.nil (w : World) (base : Nat) : OwnW w base (.slice none 0 0) [] := ⟨by simp [flat], .inl ⟨rfl, rfl⟩⟩
theorem OwnW.kept {w w' : World} {base : Nat} {v : Value} {l : List Wr} (hg : Grw w w') (h : OwnW w base v l) : OwnW w' base v l :=
  World.ownsRow.kept h (hg.by none) (by cases v.ownBlock <;> simp)
theorem infoW : (Tryz.prog.info? 86).map (fun i => (i.zero, i.size, i.bytes)) = some (some (.agg #[.int .i64 0, .int .u8 0, .int .u8 0, .int .u8 0, .int .u8 0, .int .u8 0, .int .u8 0, .int .u8 0, .int .u8 0]), 9, 16) := by kernel_rfl
theorem wr_one (x : Wr) : ∀ u ∈ wrC x, u.oneCell' = true := by
  intro u hu
  simp [wrC, blkC] at hu
  rcases hu with rfl | rfl | rfl | rfl | rfl | rfl | rfl | rfl | rfl <;> rfl
/-- the writes of the first blocks. -/
def wrP (kp : Nat → Option Int) (fr : List Int) (ds : List Blk) (n : Nat) : List Wr := (List.range n).map fun i => ⟨slotP kp fr i, ds.getD i default⟩
theorem wrP_succ (kp : Nat → Option Int) (fr : List Int) (ds : List Blk) (n : Nat) : wrP kp fr ds (n + 1) = wrP kp fr ds n ++ [⟨slotP kp fr n, ds.getD n default⟩] := by simp [wrP, List.range_succ]
theorem wrP_len (kp : Nat → Option Int) (fr : List Int) (ds : List Blk) (n : Nat) : (wrP kp fr ds n).length = n := by simp [wrP]
/-- the rest of a list of numbers. -/
theorem ints_tail {w : World} {b off n cap : Nat} {x : Int} {l : List Int} (h : Ints w (.slice (some ⟨b, off, none⟩) n cap) (x :: l)) :
    Ints w (.slice (some ⟨b, off + 1, none⟩) l.length (cap - 1)) l ∧ n = l.length + 1 ∧ w.cell? ⟨b, off, none⟩ = some (.int .i64 x) ∧ 1 ≤ cap := by
  obtain ⟨h1, h2⟩ := h
  rcases h2 with ⟨h2, h0⟩ | ⟨b', off', cap', h2, hc, hm, hcell⟩
  · cases h2
  · injection h2 with e1 e2 e3
    injection e1 with e1
    injection e1 with e4 e5 e6
    subst e4; subst e5; subst e2; subst e3
    simp only [List.length_cons] at *
    refine ⟨⟨by simp, .inr ⟨b, off + 1, cap - 1, rfl, by omega, by omega, fun j u hu => ?_⟩⟩, by first | rfl | trivial, hcell 0 _ (by simp), by omega⟩
    have := hcell (j + 1) u (by simpa using hu)
    rw [show off + 1 + j = off + (j + 1) by omega]
    exact this
end Go.Proofs.YtbfdnfkflnajlaaGreat
