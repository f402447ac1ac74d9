/-
  What a write that is permitted stands on; two rows of the call's own.
-/
import Derived.Test.YtbfdnfkflnajlaaGreatJ19
import Derived.Test.YtbfdnfkflnajlaaGreatJ27
set_option linter.unusedVariables false
set_option linter.unusedSimpArgs false
/-! What a write that is permitted stands on; two rows of the call's own. -/
namespace Go.Proofs.YtbfdnfkflnajlaaGreat
open Go.RowKit Go.Shelf
open Ext hiding One

theorem planE_ok {f : Fam} (hf : f.WF) {nm : List UInt8} {a : Int} {n : Nat} (hE : f.planE nm a n = 0) (hr : 0 ≤ f.room) :
    ∃ u, getV f.vols nm = some u ∧ 1 ≤ n ∧ n ≤ 16 ∧ 0 ≤ a ∧ a + n ≤ u.n ∧ (used (keepV f.cnt u.l a) n : Int) ≤ f.claim u + f.room ∧ f.needV nm a n = ((used (keepV f.cnt u.l a) n : Int), 0) ∧ f.canWrite nm a n = 0 := by
  unfold Fam.planE at hE
  cases hg : getV f.vols nm with
  | none => rw [hg] at hE; simp at hE
  | some u =>
    rw [hg] at hE
    simp only [Option.isSome_some, if_true] at hE
    split at hE
    · cases hE
    · rename_i hn
      have hrg : f.range nm a n = if 0 ≤ a ∧ 0 ≤ (n : Int) ∧ a + n ≤ u.n then (inL u.l a n, 0) else ([], 2) := by unfold Fam.range; rw [hg]
      have hnd := need_used hf hg a n
      unfold Fam.need at hnd
      by_cases hc : 0 ≤ a ∧ 0 ≤ (n : Int) ∧ a + n ≤ u.n
      · rw [if_pos hc] at hrg
        have hN : f.needV nm a n = ((used (keepV f.cnt u.l a) n : Int), 0) := by
          unfold Fam.needV; rw [hrg]; simp only [if_true]; rw [hnd]
        have hE2 := hE
        unfold Fam.canWrite at hE
        rw [hN] at hE
        simp only [if_true] at hE
        have hcl : (f.claimV nm).1 = f.claim u := by unfold Fam.claimV; rw [hg]
        rw [hcl] at hE
        unfold enoughI at hE
        split at hE
        · cases hE
        · exact ⟨u, rfl, by omega, by omega, hc.1, hc.2.2, by omega, hN, hE2⟩
      · rw [if_neg hc] at hrg
        have hN : f.needV nm a n = (0, 2) := by unfold Fam.needV; rw [hrg]; rfl
        unfold Fam.canWrite at hE
        rw [hN] at hE
        cases hE
/-- the runs that Take hands back, as fresh slots. -/
theorem take_fresh {f : Fam} (hf : f.WF) {R : List Ext} {NE hint : Int} (hR : inL1 65536 R) (hocc : ∀ i, occL R i = f.zero i) (h0 : 0 ≤ NE) (hfree : NE ≤ f.free) :
    inL1 f.slots R ∧ (∀ i, occL R i ≤ 1) ∧ NE ≤ sumL R ∧ inL1 f.slots (if NE = 0 then [] else takeL R NE hint) ∧ sumL (if NE = 0 then [] else takeL R NE hint) = NE ∧ FreshL f.slots f.cnt (slotsL (if NE = 0 then [] else takeL R NE hint)) := by
  have hN : inL1 f.slots R := inL1_of_occ (fun x hx => ⟨(hR x hx).1, (hR x hx).2.1⟩) fun i hi => by
    rw [hocc]; unfold Fam.zero; rw [if_neg (by omega)]
  have h1 : ∀ i, occL R i ≤ 1 := fun i => by rw [hocc]; exact zero_le1 f i
  have hs : sumL R = f.free := by
    rw [sumL_occ hN]
    unfold Fam.free
    refine sumTo_congr fun i hi => ?_
    rw [hocc]
    unfold Fam.zero
    simp only [hi, true_and]
  refine ⟨hN, h1, by omega, ?_⟩
  by_cases hz : NE = 0
  · rw [if_pos hz]
    exact ⟨inL1.nil _, hz.symm, ⟨List.nodup_nil, fun s hs => by cases hs⟩⟩
  · rw [if_neg hz]
    obtain ⟨t1, t2, t3⟩ := takeL_spec (hint := hint) hN (show 1 ≤ NE by omega) (by omega)
    refine ⟨t1, t2, slotsL_nodup t1 fun i => Int.le_trans (t3 i) (h1 i), fun s hs => ?_⟩
    obtain ⟨s1, s2, s3⟩ := slotsL_occ t1 hs
    have s4 := t3 s.toNat
    rw [hocc] at s4
    unfold Fam.zero at s4
    refine ⟨s1, s2, ?_⟩
    split at s4
    · rename_i hc; exact hc.2
    · omega
theorem hint_ok {f : Fam} (hf : f.WF) {nm : List UInt8} {u : Vol} (hg : getV f.vols nm = some u) (a : Int) : (∀ s, (f.lookup nm (a - 1)).1 = some s → smallI s) ∧ 0 ≤ f.hint nm a ∧ f.hint nm a ≤ f.slots := by
  have key : ∀ s, (f.lookup nm (a - 1)).1 = some s → 0 ≤ s ∧ s < f.slots := by
    intro s hs
    unfold Fam.lookup at hs
    rw [hg] at hs
    simp only at hs
    split at hs
    · obtain ⟨x, hx, h1, h2, h3⟩ := fnd_some hs
      have := (hf.vols u (getV_some hg).1).2.2.2.2.2.2.2 x hx
      omega
    · cases hs
  have hsl := hf.slots
  refine ⟨fun s hs => by have := key s hs; unfold smallI; omega, ?_⟩
  unfold Fam.hint
  cases h : (f.lookup nm (a - 1)).1 with
  | none => simp only; omega
  | some s => have := key s h; simp only; omega
/-- the writes and the changes, in rows of the call's own. -/
structure PlR (W0 : World) (Bs : Nat) (s4 s5 : Value) (F : List Wr) (B : List Ext) (w : World) : Prop where
  g : Grw W0 w
  lo : W0.heap.size ≤ Bs
  hi : Bs ≤ w.heap.size
  o4 : OwnW w Bs s4 F
  o5 : OwnE w Bs s5 B
  ne : ∀ k, s4.ownBlock = some k → s5.ownBlock ≠ some k
theorem PlR.grw {W0 : World} {Bs : Nat} {s4 s5 : Value} {F : List Wr} {B : List Ext} {w w' : World} (h : PlR W0 Bs s4 s5 F B w) (k : Grw w w') : PlR W0 Bs s4 s5 F B w' :=
  ⟨h.g.then k, h.lo, Nat.le_trans h.hi k.size, h.o4.kept k, h.o5.kept k, h.ne⟩
theorem own_ltR {w : World} {base size n : Nat} {e : TypeId} {v : Value} {xs : List Value} (h : w.ownsRow base e size v n xs) : ∀ k, v.ownBlock = some k → base ≤ k ∧ k < w.heap.size := World.ownsRow.lt h
theorem PlR.app5 {W0 : World} {Bs : Nat} {s4 s5 : Value} {F : List Wr} {B B' : List Ext} {w w' : World} {g cap n : Nat} (h : PlR W0 Bs s4 s5 F B w) (ho : OwnE w' Bs (.slice (some ⟨g, 0, none⟩) n cap) B') (hg : w.grownBy w' s5.ownBlock) (hat : s5.ownBlock = some g ∨ w.heap.size ≤ g) :
    PlR W0 Bs s4 (.slice (some ⟨g, 0, none⟩) n cap) F B' w' := by
  have ho4 : OwnW w' Bs s4 F := World.ownsRow.kept h.o4 hg (by
    cases e : s4.ownBlock with
    | none => exact .inl rfl
    | some k => exact .inr (fun e2 => h.ne k e e2.symm))
  refine ⟨grw_own h.g h.o5 h.lo hg, h.lo, Nat.le_trans h.hi hg.size, ho4, ho, fun k hk => ?_⟩
  intro e
  have e2 : g = k := Option.some.inj e
  rcases hat with h1 | h1
  · exact h.ne k hk (by rw [h1, e2])
  · have := own_ltR h.o4 k hk
    omega
theorem PlR.app4 {W0 : World} {Bs : Nat} {s4 s5 : Value} {F F' : List Wr} {B : List Ext} {w w' : World} {g cap n : Nat} (h : PlR W0 Bs s4 s5 F B w) (ho : OwnW w' Bs (.slice (some ⟨g, 0, none⟩) n cap) F') (hg : w.grownBy w' s4.ownBlock) (hat : s4.ownBlock = some g ∨ w.heap.size ≤ g) :
    PlR W0 Bs (.slice (some ⟨g, 0, none⟩) n cap) s5 F' B w' := by
  have ho5 : OwnE w' Bs s5 B := World.ownsRow.kept h.o5 hg (by
    cases e : s5.ownBlock with
    | none => exact .inl rfl
    | some k => exact .inr (fun e2 => h.ne k e2.symm e))
  have hgr : Grw W0 w' := show Below _ _ _ from Below.grown h.g hg h.g.size (fun j e => by have := (own_ltR h.o4 j e).1; have := h.lo; omega)
  refine ⟨hgr, h.lo, Nat.le_trans h.hi hg.size, ho, ho5, fun k hk e => ?_⟩
  have e2 : g = k := Option.some.inj hk
  rcases hat with h1 | h1
  · exact h.ne g h1 (by rw [e, e2])
  · have := own_ltR h.o5 k e
    omega
/-- a write's cells in a new row. -/
theorem newsW (W : World) (x : Wr) : ∀ j u, (wrC x)[j]? = some u → (W.alloc (.cells (wrC x).toArray 86)).cell? ((⟨W.heap.size, 0, none⟩ : Addr).add j) = some u := by
  have := World.news_of_block (w := W.alloc (.cells (wrC x).toArray 86)) (cs := (wrC x).toArray) (t := 86) (fr := (0, 0)) (heap_alloc_new _ _)
  simpa using this
theorem blk_facts {w : World} {b : Nat} {x : Blk} {t : TypeId} (hb : w.heap[b]? = some (.cells (blkC x).toArray t (0, 0))) :
    (w.cell? ⟨b, 0, none⟩ = some (u8V x.a0) ∧ w.cell? ⟨b, 1, none⟩ = some (u8V x.a1) ∧ w.cell? ⟨b, 2, none⟩ = some (u8V x.a2) ∧ w.cell? ⟨b, 3, none⟩ = some (u8V x.a3)) ∧
    w.cell? ⟨b, 4, none⟩ = some (u8V x.a4) ∧ w.cell? ⟨b, 5, none⟩ = some (u8V x.a5) ∧ w.cell? ⟨b, 6, none⟩ = some (u8V x.a6) ∧ w.cell? ⟨b, 7, none⟩ = some (u8V x.a7) :=
  ⟨⟨blk_cell hb 0, blk_cell hb 1, blk_cell hb 2, blk_cell hb 3⟩, blk_cell hb 4, blk_cell hb 5, blk_cell hb 6, blk_cell hb 7⟩
/-- a block that gets a fresh slot. -/
theorem fresh_parts {kp : Nat → Option Int} {FR : List Int} {a : Int} {n k : Nat} (hk : kp k = none) (hlt : k < n) (hu : used kp n ≤ FR.length) :
    ∃ X, slotP kp FR k = X ∧ FR.drop (used kp k) = X :: FR.drop (used kp (k + 1)) ∧ chgsP kp FR a (k + 1) = chgsP kp FR a k ++ [⟨a + k, 1, X⟩] := by
  have h1 := used_lt kp hlt hk
  have e : used kp (k + 1) = used kp k + 1 := by simp [used, hk]
  refine ⟨FR.getD (used kp k) 0, by simp [slotP, hk], ?_, by simp [chgsP, hk]⟩
  rw [e, List.getD_eq_getElem?_getD, List.getElem?_eq_getElem (show used kp k < FR.length by omega)]
  exact List.drop_eq_getElem_cons (by omega)
theorem keep_parts {kp : Nat → Option Int} {FR : List Int} {a : Int} {k : Nat} {s : Int} (hk : kp k = some s) : slotP kp FR k = s ∧ used kp (k + 1) = used kp k ∧ chgsP kp FR a (k + 1) = chgsP kp FR a k := by
  refine ⟨by simp [slotP, hk], by simp [used, hk], by simp [chgsP, hk]⟩
theorem ints_none {w : World} {b off : Nat} {l : List Int} (hl : l = []) : Ints w (.slice (some ⟨b, off, none⟩) 0 0) l := by
  subst hl
  exact ⟨by simp, .inr ⟨b, off, 0, rfl, Nat.le_refl _, Nat.zero_le _, fun j u hu => by simp at hu⟩⟩
/-- what Plan hands back. -/
def RetPlK (N : Nat) (c : Nat → Int) (kp : Nat → Option Int) (nm : List UInt8) (a : Int) (ds : List Blk) (w : World) (e : Ending) (w' : World) : Prop :=
  ∃ fr vw vb, FreshL N c fr ∧ used kp ds.length ≤ fr.length ∧ e = .returned (.tuple #[vw, vb, .int .i64 0]) ∧ Wrs w' vw (wrP kp fr ds ds.length) ∧ Bys w' vb (noteW nm (joinL (chgsP kp fr a ds.length))) ∧ Grw w w'
end Go.Proofs.YtbfdnfkflnajlaaGreat
