/-
  Plain: a write, as the note tells it, extent by extent. No program in sight. A region that draws its order: what only looks may be taken first; what makes memory waits for its turn. Plain theorems over the library's own laws. A region that draws its order in which two operations that turn the world may change places: each order is walked. A region that draws its order in a deferred closure that recovers: each order is walked.
-/
import Derived.Test.YtbfdnfkflnajlaaGreatJ04
import Derived.OrdersHeld
import Derived.Deep.QuietTactic
import Derived.BigQuiet
import Derived.WalkKit
import Derived.KernelRfl
import Derived.BigCall
import Derived.Recover
set_option linter.unusedVariables false
set_option linter.unusedSimpArgs false
/-! Plain: a write, as the note tells it, extent by extent. No program in sight. -/
namespace Go.Proofs.YtbfdnfkflnajlaaGreat
open Ext hiding One

theorem put_mid {f : Fam} (h : f.WF) {nm : List UInt8} {u : Vol} (hg : getV f.vols nm = some u) : ∃ A B, f.vols = A ++ u :: B ∧ ∀ v : Vol, v.name = u.name → f.put v = ⟨f.slots, A ++ v :: B⟩ := by
  obtain ⟨A, B, e, -, -⟩ := split_get hg
  refine ⟨A, B, e, fun v hv => ?_⟩
  have hs := h.sorted
  unfold Fam.put
  rw [e] at hs ⊢
  rw [insV_mid hs hv.symm]
theorem put_self {f : Fam} (h : f.WF) {nm : List UInt8} {u : Vol} (hg : getV f.vols nm = some u) : f.put u = f := by
  obtain ⟨A, B, e, hp⟩ := put_mid h hg
  rw [hp u rfl, ← e]
theorem getV_put {f : Fam} (h : f.WF) {nm : List UInt8} {u v : Vol} (hg : getV f.vols nm = some u) (hv : v.name = u.name) (nm' : List UInt8) : getV (f.put v).vols nm' = if nm = nm' then some v else getV f.vols nm' := by
  have := getV_insV h.sorted v nm'
  rw [hv, (getV_some hg).2] at this
  exact this
theorem put_put {f : Fam} (h : f.WF) {nm : List UInt8} {u v w : Vol} (hg : getV f.vols nm = some u) (hv : v.name = u.name) (hw : w.name = u.name) : (f.put v).put w = f.put w := by
  obtain ⟨A, B, e, hp⟩ := put_mid h hg
  rw [hp v hv, hp w hw]
  have hs := insV_sorted h.sorted v
  have he : insV f.vols v = A ++ v :: B := congrArg Fam.vols (hp v hv)
  rw [he] at hs
  unfold Fam.put
  simp only
  rw [insV_mid hs (by rw [hv, hw])]
theorem put_vol_WF {f : Fam} (h : f.WF) {nm : List UInt8} {u : Vol} (hg : getV f.vols nm = some u) {m : List Ext} (h1 : NF m) (h2 : below u.n m) (h3 : inL1 f.slots m) : (f.put ⟨u.name, u.n, u.res, m⟩).WF := by
  obtain ⟨a1, a2, a3, a4, a5, a6, a7, a8⟩ := h.vols u (getV_some hg).1
  exact h.put ⟨a1, a2, a3, a4, a5, h1, h2, h3⟩ (.inl (by rw [getV_self hg]; rfl))
/-- extents that lie in a volume. -/
def okX (N : Nat) (n : Int) (x : Ext) : Prop := 0 ≤ x.at_ ∧ 1 ≤ x.len ∧ x.at_ + x.len ≤ n ∧ 0 ≤ x.slot ∧ x.slot + x.len ≤ N
/-- a family with extents put into a volume. -/
def Fam.putX (f : Fam) (u : Vol) (xs : List Ext) : Fam := f.put ⟨u.name, u.n, u.res, putLs u.l xs⟩
section
variable {f : Fam} {nm : List UInt8} {u : Vol} {xs : List Ext}
theorem okX_one (h : f.WF) (hg : getV f.vols nm = some u) {x : Ext} (hx : okX f.slots u.n x) : x.One := assign_one h (getV_some hg).1 hx
theorem putX_nil (h : f.WF) (hg : getV f.vols nm = some u) : f.putX u [] = f := put_self h hg
theorem putX_WF (h : f.WF) (hg : getV f.vols nm = some u) (hx : ∀ x ∈ xs, okX f.slots u.n x) : (f.putX u xs).WF := by
  obtain ⟨a1, a2, a3, a4, a5, a6, a7, a8⟩ := h.vols u (getV_some hg).1
  have ho := fun x hm => okX_one h hg (hx x hm)
  exact put_vol_WF h hg (putLs_NF a6 ho) (putLs_below a7 fun x hm => (hx x hm).2.2.1) (putLs_in a6 a8 ho fun x hm => (hx x hm).2.2.2.2)
theorem putX_get (h : f.WF) (hg : getV f.vols nm = some u) : getV (f.putX u xs).vols nm = some ⟨u.name, u.n, u.res, putLs u.l xs⟩ := by
  unfold Fam.putX
  rw [getV_put h hg (v := ⟨u.name, u.n, u.res, putLs u.l xs⟩) rfl, if_pos rfl]
theorem putX_snoc (h : f.WF) (hg : getV f.vols nm = some u) {x : Ext} (hx : okX f.slots u.n x) : (f.putX u xs).assign nm x = .ok (f.putX u (xs ++ [x])) := by
  unfold Fam.assign
  rw [putX_get h hg]
  simp only
  have hx' : 0 ≤ x.at_ ∧ 1 ≤ x.len ∧ x.at_ + x.len ≤ u.n ∧ 0 ≤ x.slot ∧ x.slot + x.len ≤ (f.putX u xs).slots := hx
  rw [if_pos hx']
  unfold Fam.putX
  rw [put_put h hg (v := ⟨u.name, u.n, u.res, putLs u.l xs⟩) (w := ⟨u.name, u.n, u.res, putL (putLs u.l xs) x⟩) rfl rfl, putLs_snoc]
theorem putX_chain (h : f.WF) (hg : getV f.vols nm = some u) (hx : ∀ x ∈ xs, okX f.slots u.n x) (j : Nat) (x : Ext) (hj : xs[j]? = some x) : (f.putX u (xs.take j)).assign nm x = .ok (f.putX u (xs.take (j + 1))) := by
  rw [List.take_add_one, hj]
  exact putX_snoc h hg (hx x (List.mem_of_getElem? hj))
end
/-- what a write puts in. -/
def planX (f : Fam) (u : Vol) (a : Int) (n : Nat) (fr : List Int) : List Ext := joinL (chgsP (keepV f.cnt u.l a) fr a n)
section
variable {f : Fam} {nm : List UInt8} {u : Vol} {a : Int} {n : Nat} {fr : List Int}
theorem plan_VL (h : f.WF) (hg : getV f.vols nm = some u) (hf : FreshL f.slots f.cnt fr) (hu : used (keepV f.cnt u.l a) n ≤ fr.length) (h0 : 0 ≤ a) (h1 : a + n ≤ u.n) : VL (chgsP (keepV f.cnt u.l a) fr a n) :=
  chgs_VL hf h.slots hu h0 (by have := (h.vols u (getV_some hg).1).2.2.1; omega)
theorem plan_NF (h : f.WF) (hg : getV f.vols nm = some u) (hf : FreshL f.slots f.cnt fr) (hu : used (keepV f.cnt u.l a) n ≤ fr.length) (h0 : 0 ≤ a) (h1 : a + n ≤ u.n) : NF (planX f u a n fr) := join_NF (plan_VL h hg hf hu h0 h1)
theorem plan_ok (h : f.WF) (hg : getV f.vols nm = some u) (hf : FreshL f.slots f.cnt fr) (hu : used (keepV f.cnt u.l a) n ≤ fr.length) (h0 : 0 ≤ a) (h1 : a + n ≤ u.n) : ∀ x ∈ planX f u a n fr, okX f.slots u.n x := by
  intro x hx
  have hn := plan_NF h hg hf hu h0 h1
  have hi := join_in (plan_VL h hg hf hu h0 h1) (chgs_in hf hu)
  have hb : below u.n (planX f u a n fr) := below_join fun y hy => by
    obtain ⟨i, hi, hk, rfl⟩ := mem_chgs hy
    simp only; omega
  have e1 := hn.1 x hx
  have e2 := hi x hx
  have e3 := hb x hx
  unfold Ext.One at e1
  unfold okX
  omega
theorem plan_few (f : Fam) (u : Vol) (a : Int) (n : Nat) (fr : List Int) : (planX f u a n fr).length ≤ used (keepV f.cnt u.l a) n := by
  have := join_len_le (chgsP (keepV f.cnt u.l a) fr a n)
  rw [chgs_len] at this
  exact this
/-- where a block is mapped behind a write. -/
theorem plan_at (h : f.WF) (hg : getV f.vols nm = some u) (hf : FreshL f.slots f.cnt fr) (hu : used (keepV f.cnt u.l a) n ≤ fr.length) (h0 : 0 ≤ a) (h1 : a + n ≤ u.n) (k : Int) :
    fnd (putLs u.l (planX f u a n fr)) k = if a ≤ k ∧ k < a + n then some (slotP (keepV f.cnt u.l a) fr (k - a).toNat) else fnd u.l k := by
  have hv := h.vols u (getV_some hg).1
  exact plan_fnd hv.2.2.2.2.2.1 hf h.slots hu h0 (by have := hv.2.2.1; omega) k
theorem plan_room (h : f.WF) (hg : getV f.vols nm = some u) (hf : FreshL f.slots f.cnt fr) (hu : used (keepV f.cnt u.l a) n ≤ fr.length) (h0 : 0 ≤ a) (h1 : a + n ≤ u.n) (hr : 0 ≤ f.room)
    (hcan : (used (keepV f.cnt u.l a) n : Int) ≤ f.claim u + f.room) : 0 ≤ (f.putX u (planX f u a n fr)).room := by
  obtain ⟨A, B, e, hp⟩ := put_mid h hg
  obtain ⟨a1, a2, a3, a4, a5, a6, a7, a8⟩ := h.vols u (getV_some hg).1
  obtain ⟨an, rfl⟩ : ∃ an : Nat, a = an := ⟨a.toNat, by omega⟩
  unfold Fam.putX
  rw [hp ⟨u.name, u.n, u.res, putLs u.l (planX f u an n fr)⟩ rfl]
  exact write_room (N := f.slots) (n := n) (fr := fr) (a := an) rfl h.slots e a6 (putLs_NF a6 fun x hx => okX_one h hg (plan_ok h hg hf hu h0 h1 x hx)).vl a8 hf hu (by omega) (plan_at h hg hf hu h0 h1) hr hcan
end
section
variable {f : Fam} {nm : List UInt8} {u : Vol} {a : Int} {n : Nat} {fr : List Int}
/-- what is written is exclusive. -/
theorem plan_excl (h : f.WF) (hg : getV f.vols nm = some u) (hf : FreshL f.slots f.cnt fr) (hu : used (keepV f.cnt u.l a) n ≤ fr.length) (h0 : 0 ≤ a) (h1 : a + n ≤ u.n) {i : Nat} (hi : i < n) :
    (0 ≤ slotP (keepV f.cnt u.l a) fr i ∧ slotP (keepV f.cnt u.l a) fr i < f.slots) ∧ (f.putX u (planX f u a n fr)).cnt (slotP (keepV f.cnt u.l a) fr i).toNat = 1 := by
  obtain ⟨a1, a2, a3, a4, a5, a6, a7, a8⟩ := h.vols u (getV_some hg).1
  obtain ⟨an, rfl⟩ : ∃ an : Nat, a = an := ⟨a.toNat, by omega⟩
  have hm := putLs_NF a6 (xs := planX f u an n fr) fun x hx => okX_one h hg (plan_ok h hg hf hu h0 h1 x hx)
  have key := write_key (a := an) a6 hm.vl hf hu (by omega) (plan_at h hg hf hu h0 h1)
  have hc := cnt_put h (getV_self hg) (putLs u.l (planX f u an n fr)) u.n u.res
  have hle : ∀ s, occL u.l s ≤ f.cnt s := fun s => cntVs_mem (getV_some hg).1 s
  have hD := fun s => chgs_occ1 (a := (an : Int)) (n := n) hf hu s
  cases hk : keepV f.cnt u.l an i with
  | some s =>
    have hs : slotP (keepV f.cnt u.l an) fr i = s := by simp [slotP, hk]
    rw [hs]
    unfold keepV at hk
    cases hq : fnd u.l ((an : Int) + i) with
    | none => rw [hq] at hk; cases hk
    | some t =>
      rw [hq] at hk
      simp only at hk
      split at hk
      · rename_i h1c
        obtain rfl : t = s := Option.some.inj hk
        obtain ⟨x, hx, e1, e2, e3⟩ := fnd_some hq
        have := a8 x hx
        refine ⟨by omega, ?_⟩
        obtain ⟨lost, l1, l2, l3, l4⟩ := key t.toNat
        show (f.put ⟨u.name, u.n, u.res, _⟩).cnt _ = 1
        rw [hc]
        have hd0 : occL (chgsP (keepV f.cnt u.l an) fr an n) t.toNat = 0 := by
          have h0 := (occL_bound (chgsP (keepV f.cnt u.l an) fr an n) t.toNat).1
          refine Classical.byContradiction fun hne => ?_
          obtain ⟨j, hj, hkj, e⟩ := (hD t.toNat).2 (by omega)
          have := (hf.at (i := used (keepV f.cnt u.l an) j) (by have := used_lt _ hj hkj; omega)).2.2
          rw [e] at this
          simp only [Int.toNat_natCast] at this
          omega
        have := l3 h1c
        omega
      · cases hk
  | none =>
    have hs : slotP (keepV f.cnt u.l an) fr i = fr.getD (used (keepV f.cnt u.l an) i) 0 := by simp [slotP, hk]
    rw [hs]
    have hlt := used_lt _ hi hk
    obtain ⟨s1, s2, s3⟩ := hf.at (i := used (keepV f.cnt u.l an) i) (by omega)
    refine ⟨⟨s1, s2⟩, ?_⟩
    obtain ⟨S, hS⟩ : ∃ S : Nat, fr.getD (used (keepV f.cnt u.l an) i) 0 = S := ⟨(fr.getD (used (keepV f.cnt u.l an) i) 0).toNat, by omega⟩
    rw [hS] at s3 ⊢
    simp only [Int.toNat_natCast] at s3 ⊢
    obtain ⟨lost, l1, l2, l3, l4⟩ := key S
    have := hle S
    have h00 := (occL_bound u.l S).1
    have hd1 : 1 ≤ occL (chgsP (keepV f.cnt u.l an) fr an n) S := by
      have hin : (⟨an + i, 1, fr.getD (used (keepV f.cnt u.l an) i) 0⟩ : Ext) ∈ chgsP (keepV f.cnt u.l an) fr an n := chgs_mem hi hk
      have := occL_mem hin S
      simp only [hS] at this
      rw [occ1_iff.2 (by omega)] at this
      exact this
    have := (hD S).1
    show (f.put ⟨u.name, u.n, u.res, _⟩).cnt _ = 1
    rw [hc]
    omega
end
/-- the note of a write. -/
def noteW (nm : List UInt8) (xs : List Ext) : List UInt8 := encU 1 ++ encB nm ++ encN xs.length ++ encXs xs
theorem noteW_len {nm : List UInt8} {xs : List Ext} (hn : nm.length ≤ 16) (hx : ∀ x ∈ xs, x.One) (hl : xs.length ≤ 16) : (noteW nm xs).length ≤ 21 + 9 * xs.length := by
  have h1 := encB_len hn
  have h2 := encXs_len hx
  have h3 := encN_len (n := xs.length) (by omega)
  have h4 : (encU 1).length = 1 := by rw [encU_low (by omega)]; rfl
  unfold noteW
  simp only [List.length_append]
  omega
/-- the need, as alloc has it. -/
theorem need_used {f : Fam} (h : f.WF) {nm : List UInt8} {u : Vol} (hg : getV f.vols nm = some u) (a : Int) (n : Nat) : f.need u a n = used (keepV f.cnt u.l a) n := by
  obtain ⟨a1, a2, a3, a4, a5, a6, a7, a8⟩ := h.vols u (getV_some hg).1
  have := exc_used (c := f.cnt) a6.vl a8 a n
  unfold Fam.need
  rw [inL_eq a6, exc_excL]
  omega
/-- what is needed is free. -/
theorem need_free {f : Fam} (h : f.WF) {nm : List UInt8} {u : Vol} (hg : getV f.vols nm = some u) {k : Int} (hr : 0 ≤ f.room) (hcan : k ≤ f.claim u + f.room) : k ≤ f.free := by
  obtain ⟨A, B, e, -, -⟩ := split_get hg
  have h1 : f.claims = sumV f.claim A + (f.claim u + sumV f.claim B) := by
    unfold Fam.claims; rw [e, sumV_app]; rfl
  have hA := sumV_nonneg (g := f.claim) (fun v => by unfold Fam.claim; omega) A
  have hB := sumV_nonneg (g := f.claim) (fun v => by unfold Fam.claim; omega) B
  unfold Fam.room at *
  omega
end Go.Proofs.YtbfdnfkflnajlaaGreat

/-! A region that draws its order: what only looks may be taken first; what makes memory waits for its turn. Plain theorems over the library's own laws. -/
namespace Go.Proofs.YtbfdnfkflnajlaaGreat
open Go.RowKit

/-! ### A region that draws its order: what only looks is taken first, what makes memory waits for its turn -/
section
variable {P : Program} {ops : Array Oper} {Q : Exit → Act → World → Prop} {S : World → Prop}

/-- the walk of a region in one order: 'true': an operation that only looks, in every world of the class S; 'false': one that may turn the world, within S. -/
def wpPi (P : Program) (ops : Array Oper) (Q : Exit → Act → World → Prop) (S : World → Prop) : List (Nat × Bool) → Act → World → Prop
  | [], a, w => Q .normal a w
  | (i, true) :: rest, a, w => ∃ o v, ops[i]? = some o ∧ YieldsIf P ops S o v a ∧ wpPi P ops Q S rest (a.put o.dst v) w
  | (i, false) :: rest, a, w => wpOp P ops Q i (fun a' w' => S w' ∧ wpPi P ops Q S rest a' w') a w

/-- may the order be so? -/
def okPi (ops : Array Oper) : List (Nat × Bool) → Array Bool → Bool
  | [], listed => Region.ready .any ops listed == []
  | (i, true) :: rest, listed => (Region.ready .any ops listed).contains i && Region.free .any ops listed i && okPi ops rest (listed.setIfInBounds i true)
  | (i, false) :: rest, listed => Region.ready .any ops listed == [i] && okPi ops rest (listed.setIfInBounds i true)

theorem wpAnyH_of_pi (hs : Region.noSelect ops = true) (hQ : ∀ c (a : Act) d v w, Q (.panic c) (a.put d v) w → Q (.panic c) a w) :
    ∀ (l : List (Nat × Bool)) (listed : Array Bool) (a : Act) (w : World), okPi ops l listed = true → S w → wpPi P ops Q S l a w → wpAnyH P .any ops Q S l.length listed a w
  | [], listed, a, w, ho, _, h => ⟨by simpa [okPi] using ho, h⟩
  | (i, true) :: rest, listed, a, w, ho, hS, h => by
    obtain ⟨o, v, hi, hy, h⟩ := h
    simp only [okPi, Bool.and_eq_true] at ho
    exact wpAnyH_take hi hs ho.1.2 ho.1.1 (fun c a w hq => hQ c a o.dst v w hq) hy hS (wpAnyH_of_pi hs hQ rest _ _ _ ho.2 hS h)
  | (i, false) :: rest, listed, a, w, ho, hS, h => by
    simp only [okPi, Bool.and_eq_true, beq_iff_eq] at ho
    refine wpAnyH_all ho.1 (by simp) (fun j hj => ?_)
    obtain rfl : j = i := by simpa using hj
    exact wpOp_mono (fun a' w' h' => ⟨h'.1, wpAnyH_of_pi hs hQ rest _ _ _ ho.2 h'.1 h'.2⟩) h

/-- THE BEGINNING. -/
theorem wp_region_pi {id : Nat} {a : Act} {w : World} {lo : List Oper} (S : World → Prop) (l : List (Nat × Bool)) (hm : P.follows .mixedOrders = true)
    (hs : Region.noSelect lo.toArray = true) (hl : (l.length == lo.length) = true) (hok : okPi lo.toArray l (Array.replicate lo.length false) = true)
    (hQ : ∀ c (a : Act) d v w, Q (.panic c) (a.put d v) w → Q (.panic c) a w) (hS : S w.drew)
    (h : wpPi P lo.toArray Q S l a w.drew) : (Code.region id lo.toArray true).wp P Q a w := by
  have := wpAnyH_of_pi hs hQ l (Array.replicate lo.length false) a w.drew hok hS h
  rw [beq_iff_eq] at hl
  rw [hl] at this
  exact wp_region_held (S := S) hm (by simpa using this)

/-- an operation that only looks. -/
theorem pi_q {i : Nat} {rest : List (Nat × Bool)} {a : Act} {w : World} {o : Oper} (ho : ops[i]? = some o) (hg : o.guard = none)
    (h : ∀ K : Act → Prop, (∀ a', wpPi P ops Q S rest a' w → K a') → ∃ v, (∀ w', S w' → (execOp a.eval o).run P w' = .ok (.value v) w') ∧ K (a.put o.dst v)) : wpPi P ops Q S ((i, true) :: rest) a w := by
  obtain ⟨v, h1, h2⟩ := h _ (fun _ h => h)
  exact ⟨o, v, ho, .inl ⟨by simp [Region.wanted, hg], h1⟩, h2⟩
/-- one that may turn the world. -/
theorem pi_e {i : Nat} {rest : List (Nat × Bool)} {a : Act} {w : World} {o : Oper} (ho : ops[i]? = some o) (hg : o.guard = none)
    (h : ∀ K : Act → World → Prop, (∀ a' w', S w' ∧ wpPi P ops Q S rest a' w' → K a' w') → o.wp P a w K Q) : wpPi P ops Q S ((i, false) :: rest) a w := by
  show wpOp P ops Q i _ a w
  unfold wpOp
  simp only [ho, Region.wanted, hg, if_true]
  exact .inl (h _ (fun _ _ h => h))
theorem pi_nil {a : Act} {w : World} (h : Q .normal a w) : wpPi P ops Q S [] a w := h
end

/-- the world has grown: what was there is as it was. -/
def Grw (w w' : World) : Prop := Below w.heap.size w w'
/-- a world that has grown out of w. -/
structure GW (w : World) where
  out : World
  hg : Grw w out
/-- the class of the worlds that have grown out of w. -/
def inGW (w w' : World) : Prop := ∃ p : GW w, w' = p.out

/-- the i-th of a list, as it is written. -/
def nth : List Oper → Nat → Option Oper
  | [], _ => none
  | o :: _, 0 => some o
  | _ :: l, n + 1 => nth l n
theorem nth_get {o : Oper} (l : List Oper) : ∀ {i : Nat}, nth l i = some o → l[i]? = some o := by
  induction l with
  | nil => intro i h; cases i <;> cases h
  | cons x l ih =>
    intro i h
    cases i with
    | zero => exact h
    | succ n => rw [List.getElem?_cons_succ]; exact ih h
theorem nth_ops {lo : List Oper} {A : Array Oper} {i : Nat} {o : Oper} (hA : Hid (A = lo.toArray)) (h : nth lo i = some o) : A[i]? = some o := by
  rw [hA.out]; simpa using nth_get lo h
section
variable {lo : List Oper}
variable {P : Program} {ops : Array Oper} {Q : Exit → Act → World → Prop} {w0 : World}
/-- an operation that only looks, in every world that has grown out of w0. -/
theorem gw_q {i : Nat} {rest : List (Nat × Bool)} {a : Act} {w : World} {o : Oper} (hA : Hid (ops = lo.toArray)) (ho : nth lo i = some o) (hg : o.guard = none) {v : Value}
    (h : ∀ p : GW w0, (execOp a.eval o).run P p.out = .ok (.value v) p.out) (hk : wpPi P ops Q (inGW w0) rest (a.put o.dst v) w) : wpPi P ops Q (inGW w0) ((i, true) :: rest) a w :=
  ⟨o, v, nth_ops hA ho, .inl ⟨by simp [Region.wanted, hg], fun w' hw => by obtain ⟨p, rfl⟩ := hw; exact h p⟩, hk⟩
/-- one that may make memory. -/
theorem gw_e {i : Nat} {rest : List (Nat × Bool)} {a : Act} {w : World} {o : Oper} (hA : Hid (ops = lo.toArray)) (ho : nth lo i = some o) (hg : o.guard = none)
    (h : ∀ K : Act → World → Prop, (∀ a' w', Grw w0 w' ∧ wpPi P ops Q (inGW w0) rest a' w' → K a' w') → o.wp P a w K Q) : wpPi P ops Q (inGW w0) ((i, false) :: rest) a w := by
  show wpOp P ops Q i _ a w
  unfold wpOp
  simp only [nth_ops hA ho, Region.wanted, hg, if_true]
  exact .inl (h _ (fun a' w' h => ⟨⟨⟨w', h.1⟩, rfl⟩, h.2⟩))
/-- one whose guard says no. -/
theorem gw_g {i : Nat} {b : Bool} {rest : List (Nat × Bool)} {a : Act} {w : World} {o : Oper} (hA : Hid (ops = lo.toArray)) (ho : nth lo i = some o) (hg : Region.wanted o (yielded ops a.tmps) = false) (hw : Grw w0 w)
    (hk : wpPi P ops Q (inGW w0) rest (a.put o.dst undef) w) : wpPi P ops Q (inGW w0) ((i, b) :: rest) a w := by
  cases b with
  | true => exact ⟨o, undef, nth_ops hA ho, .inr ⟨hg, rfl⟩, hk⟩
  | false =>
    show wpOp P ops Q i _ a w
    unfold wpOp
    simp only [nth_ops hA ho, hg, Bool.false_eq_true, if_false]
    exact ⟨⟨⟨w, hw⟩, rfl⟩, hk⟩
/-- guarded operations whose guard says yes. -/
theorem gw_qg {i : Nat} {rest : List (Nat × Bool)} {a : Act} {w : World} {o : Oper} (hA : Hid (ops = lo.toArray)) (ho : nth lo i = some o) (hg : Region.wanted o (yielded ops a.tmps) = true) {v : Value}
    (h : ∀ p : GW w0, (execOp a.eval o).run P p.out = .ok (.value v) p.out) (hk : wpPi P ops Q (inGW w0) rest (a.put o.dst v) w) : wpPi P ops Q (inGW w0) ((i, true) :: rest) a w :=
  ⟨o, v, nth_ops hA ho, .inl ⟨hg, fun w' hw => by obtain ⟨p, rfl⟩ := hw; exact h p⟩, hk⟩
theorem gw_eg {i : Nat} {rest : List (Nat × Bool)} {a : Act} {w : World} {o : Oper} (hA : Hid (ops = lo.toArray)) (ho : nth lo i = some o) (hg : Region.wanted o (yielded ops a.tmps) = true)
    (h : ∀ K : Act → World → Prop, (∀ a' w', Grw w0 w' ∧ wpPi P ops Q (inGW w0) rest a' w' → K a' w') → o.wp P a w K Q) : wpPi P ops Q (inGW w0) ((i, false) :: rest) a w := by
  show wpOp P ops Q i _ a w
  unfold wpOp
  simp only [nth_ops hA ho, hg, if_true]
  exact .inl (h _ (fun a' w' h => ⟨⟨⟨w', h.1⟩, rfl⟩, h.2⟩))
/-- THE BEGINNING, at the worlds that grow. -/
theorem gw_region {id : Nat} {a : Act} {w : World} {lo : List Oper} (l : List (Nat × Bool)) (hm : P.follows .mixedOrders = true)
    (hs : (Region.noSelect lo.toArray && (l.length == lo.length) && okPi lo.toArray l (Array.replicate lo.length false)) = true)
    (hQ : ∀ c (a : Act) d v w, Q (.panic c) (a.put d v) w → Q (.panic c) a w)
    (h : ∀ A : Array Oper, Hid (A = lo.toArray) → wpPi P A Q (inGW w) l a w.drew) : (Code.region id lo.toArray true).wp P Q a w := by
  simp only [Bool.and_eq_true] at hs
  exact wp_region_pi (inGW w) l hm hs.1.1 hs.1.2 hs.2 hQ ⟨⟨w.drew, show Below _ _ _ from (Below.refl _ _).drew⟩, rfl⟩ (h _ rfl)
end
section
variable {w w' a b c B : World}
@[go_sem] theorem Grw.self (w : World) : Grw w w := Below.refl _ _
theorem Grw.drw (w : World) : Grw w w.drew := show Below _ _ _ from (Below.refl _ _).drew
theorem Grw.then (h : Grw a b) (k : Grw b c) : Grw a c :=
  show Below _ _ _ from Below.trans h ⟨Below.os k, Below.tape k, Below.output k, Below.size k, fun i hi => Below.block k i (Nat.lt_of_lt_of_le hi (Below.size h))⟩
@[go_sem] theorem Grw.drew_iff : Grw w B.drew ↔ Grw w B := ⟨fun h => have k : Below w.heap.size w B.drew := h; ⟨k.os, k.tape, k.output, k.size, k.block⟩, fun h => h.then (Grw.drw B)⟩
@[go_sem] theorem Grw.alc (h : Grw a b) (o : Obj) : Grw a (b.alloc o) := show Below _ _ _ from Below.alloc h (Below.size h) o
theorem Grw.then' {a b c : World} (h : Grw a b) (k : Below a.heap.size b c) : Grw a c := show Below _ _ _ from Below.trans h k
theorem Grw.blk (h : Grw w w') {b : Nat} {o : Obj} (hb : w.heap[b]? = some o) : w'.heap[b]? = some o :=
  (Below.block h b (Array.getElem?_eq_some_iff.1 hb).1).trans hb
theorem Grw.size (h : Grw w w') : w.heap.size ≤ w'.heap.size := Below.size h
theorem blk_cell {W : World} {b : Nat} {cs : Array Value} {t : TypeId} {fr : Nat × Nat} (h : W.heap[b]? = some (.cells cs t fr)) (o : Nat) : W.cell? ⟨b, o, none⟩ = cs[o]? := by
  simp [World.cell?, h]
/-- a cell, in every world that has grown out of w. -/
theorem Grw.cells {b : Nat} {cs : Array Value} {t : TypeId} {fr : Nat × Nat} (h : w.heap[b]? = some (.cells cs t fr)) (o : Nat) : ∀ B, Grw w B → B.cell? ⟨b, o, none⟩ = cs[o]? := fun B hB => blk_cell (hB.blk h) o
theorem Grw.cell {p : Addr} {v : Value} (h : w.cell? p = some v) : ∀ B, Grw w B → B.cell? p = some v := fun B hB => (Below.cell hB (World.block_lt_of_cell? w p h)).trans h
end
@[go_sem] theorem GW.grw {w B : World} (h : Grw w B) (p : GW B) : Grw w p.out := h.then p.hg
/-- a new block. -/
theorem alloc_blk (w : World) (o : Obj) : (w.alloc o).heap[w.heap.size]? = some o := heap_alloc_new w o
theorem Grw.alloc (w : World) (o : Obj) : Grw w (w.alloc o) := (Grw.self w).alc o


/-! ### .. with own variables that are written -/
/-- the world has grown, and of what was there the blocks X alone may have turned. -/
structure GrwX (X : Nat → Prop) (w w' : World) : Prop where
  os : w'.os = w.os
  tape : w'.tape = w.tape
  output : w'.output = w.output
  size : w.heap.size ≤ w'.heap.size
  block : ∀ k, k < w.heap.size → ¬ X k → w'.heap[k]? = w.heap[k]?
/-- k own blocks, from block n on. -/
def OwnR (n k : Nat) (i : Nat) : Prop := n ≤ i ∧ i < n + k
theorem OwnR.not {n k i : Nat} (h : i < n ∨ n + k ≤ i) : ¬ OwnR n k i := fun ⟨a, b⟩ => by omega
theorem OwnR.at0 {n k : Nat} : OwnR n (k + 1) n := ⟨Nat.le_refl _, by omega⟩
structure GX (X : Nat → Prop) (w : World) where
  out : World
  hg : GrwX X w out
def inGX (X : Nat → Prop) (w w' : World) : Prop := ∃ p : GX X w, w' = p.out
section
variable {X : Nat → Prop} {w w' a b c B : World}
@[go_sem] theorem GrwX.self (X : Nat → Prop) (w : World) : GrwX X w w := ⟨rfl, rfl, rfl, Nat.le_refl _, fun _ _ _ => rfl⟩
theorem Grw.x (h : Grw w w') : GrwX X w w' := ⟨Below.os h, Below.tape h, Below.output h, Below.size h, fun k hk _ => Below.block h k hk⟩
theorem GrwX.then (h : GrwX X a b) (k : GrwX X b c) : GrwX X a c :=
  ⟨k.os.trans h.os, k.tape.trans h.tape, k.output.trans h.output, Nat.le_trans h.size k.size, fun i hi hx => (k.block i (Nat.lt_of_lt_of_le hi h.size) hx).trans (h.block i hi hx)⟩
@[go_sem] theorem GrwX.drew_iff : GrwX X w B.drew ↔ GrwX X w B := ⟨fun h => ⟨h.os, h.tape, h.output, h.size, h.block⟩, fun h => ⟨h.os, h.tape, h.output, h.size, h.block⟩⟩
@[go_sem] theorem GrwX.alc (h : GrwX X a b) (o : Obj) : GrwX X a (b.alloc o) := h.then (Grw.alloc b o).x
@[go_sem] theorem GX.grw {w B : World} (h : GrwX X w B) (p : GX X B) : GrwX X w p.out := h.then p.hg
theorem GrwX.set (h : GrwX X a b) {p : Addr} (hp : X p.block) (v : Value) : GrwX X a (b.setCell p v) :=
  h.then ⟨rfl, rfl, rfl, by simp [World.setCell], fun k _ hx => Below.heap_setCell _ _ _ _ (fun e => hx (e ▸ hp))⟩
theorem GrwX.blk (h : GrwX X w w') {b : Nat} {o : Obj} (hb : w.heap[b]? = some o) (hx : ¬ X b) : w'.heap[b]? = some o :=
  (h.block b (Array.getElem?_eq_some_iff.1 hb).1 hx).trans hb
theorem GrwX.cells {b : Nat} {cs : Array Value} {t : TypeId} {fr : Nat × Nat} (h : w.heap[b]? = some (.cells cs t fr)) (hx : ¬ X b) (o : Nat) : ∀ B, GrwX X w B → B.cell? ⟨b, o, none⟩ = cs[o]? := fun B hB => blk_cell (hB.blk h hx) o
theorem GrwX.cell {p : Addr} {v : Value} (h : w.cell? p = some v) (hx : ¬ X p.block) : ∀ B, GrwX X w B → B.cell? p = some v := fun B hB =>
  (World.cell?_of_block (w := w) (hB.block p.block (World.block_lt_of_cell? w p h) hx)).trans h
/-- two worlds that have grown out of one, alike but for own blocks. -/
theorem GrwX.own {k : Nat} (ha : Grw w a) (hb : Grw w b) (hs : a.heap.size ≤ b.heap.size) (hk : a.heap.size ≤ w.heap.size + k) : GrwX (OwnR w.heap.size k) a b :=
  ⟨(Below.os hb).trans (Below.os ha).symm, (Below.tape hb).trans (Below.tape ha).symm, (Below.output hb).trans (Below.output ha).symm, hs, fun i hi hx => by
    have hw : i < w.heap.size := Nat.lt_of_not_le (fun h => hx ⟨h, by omega⟩)
    exact (Below.block hb i hw).trans (Below.block ha i hw).symm⟩
/-- the blocks that may turn are the call's own: for whoever called nothing has turned. -/
theorem GrwX.grw (k : GrwX X b c) (h : Grw a b) (hX : ∀ i, X i → a.heap.size ≤ i) : Grw a c :=
  h.then' ⟨k.os, k.tape, k.output, k.size, fun i hi => k.block i (Nat.lt_of_lt_of_le hi (Below.size h)) (fun hx => by have := hX i hx; omega)⟩
end
section
variable {P : Program} {ops : Array Oper} {Q : Exit → Act → World → Prop} {w0 : World} {lo : List Oper} {X : Nat → Prop}
theorem gx_q {i : Nat} {rest : List (Nat × Bool)} {a : Act} {w : World} {o : Oper} (hA : Hid (ops = lo.toArray)) (ho : nth lo i = some o) (hg : o.guard = none) {v : Value}
    (h : ∀ p : GX X w0, (execOp a.eval o).run P p.out = .ok (.value v) p.out) (hk : wpPi P ops Q (inGX X w0) rest (a.put o.dst v) w) : wpPi P ops Q (inGX X w0) ((i, true) :: rest) a w :=
  ⟨o, v, nth_ops hA ho, .inl ⟨by simp [Region.wanted, hg], fun w' hw => by obtain ⟨p, rfl⟩ := hw; exact h p⟩, hk⟩
theorem gx_e {i : Nat} {rest : List (Nat × Bool)} {a : Act} {w : World} {o : Oper} (hA : Hid (ops = lo.toArray)) (ho : nth lo i = some o) (hg : o.guard = none)
    (h : ∀ K : Act → World → Prop, (∀ a' w', GrwX X w0 w' ∧ wpPi P ops Q (inGX X w0) rest a' w' → K a' w') → o.wp P a w K Q) : wpPi P ops Q (inGX X w0) ((i, false) :: rest) a w := by
  show wpOp P ops Q i _ a w
  unfold wpOp
  simp only [nth_ops hA ho, Region.wanted, hg, if_true]
  exact .inl (h _ (fun a' w' h => ⟨⟨⟨w', h.1⟩, rfl⟩, h.2⟩))
theorem gx_region (X : Nat → Prop) {id : Nat} {a : Act} {w : World} {lo : List Oper} (l : List (Nat × Bool)) (hm : P.follows .mixedOrders = true)
    (hs : (Region.noSelect lo.toArray && (l.length == lo.length) && okPi lo.toArray l (Array.replicate lo.length false)) = true)
    (hQ : ∀ c (a : Act) d v w, Q (.panic c) (a.put d v) w → Q (.panic c) a w)
    (h : ∀ A : Array Oper, Hid (A = lo.toArray) → wpPi P A Q (inGX X w) l a w.drew) : (Code.region id lo.toArray true).wp P Q a w := by
  simp only [Bool.and_eq_true] at hs
  exact wp_region_pi (inGX X w) l hm hs.1.1 hs.1.2 hs.2 hQ ⟨⟨w.drew, (GrwX.self X w).then (Grw.drw w).x⟩, rfl⟩ (h _ rfl)
end

end Go.Proofs.YtbfdnfkflnajlaaGreat

/-! A region that draws its order in which two operations that turn the world may change places: each order is walked. -/
namespace Go.Proofs.YtbfdnfkflnajlaaGreat
open Go.RowKit

/-- orders: q: an operation that only looks; e: the sole one that may turn the world; two: either of two. -/
inductive Ords where
  | nil
  | q (i : Nat) (r : Ords)
  | e (i : Nat) (r : Ords)
  | two (i j : Nat) (ri rj : Ords)
section
variable {P : Program} {ops : Array Oper} {Q : Exit → Act → World → Prop} {S : World → Prop}
def wpO (P : Program) (ops : Array Oper) (Q : Exit → Act → World → Prop) (S : World → Prop) : Ords → Act → World → Prop
  | .nil, a, w => Q .normal a w
  | .q i r, a, w => ∃ o v, ops[i]? = some o ∧ YieldsIf P ops S o v a ∧ wpO P ops Q S r (a.put o.dst v) w
  | .e i r, a, w => wpOp P ops Q i (fun a' w' => S w' ∧ wpO P ops Q S r a' w') a w
  | .two i j ri rj, a, w => wpOp P ops Q i (fun a' w' => S w' ∧ wpO P ops Q S ri a' w') a w ∧ wpOp P ops Q j (fun a' w' => S w' ∧ wpO P ops Q S rj a' w') a w
def okO (ops : Array Oper) : Ords → Nat → Array Bool → Bool
  | .nil, n, listed => (n == 0) && (Region.ready .any ops listed == [])
  | .q _ _, 0, _ => false
  | .e _ _, 0, _ => false
  | .two _ _ _ _, 0, _ => false
  | .q i r, n + 1, listed => (Region.ready .any ops listed).contains i && Region.free .any ops listed i && okO ops r n (listed.setIfInBounds i true)
  | .e i r, n + 1, listed => Region.ready .any ops listed == [i] && okO ops r n (listed.setIfInBounds i true)
  | .two i j ri rj, n + 1, listed => Region.ready .any ops listed == [i, j] && okO ops ri n (listed.setIfInBounds i true) && okO ops rj n (listed.setIfInBounds j true)
theorem wpAnyH_of_O (hs : Region.noSelect ops = true) (hQ : ∀ c (a : Act) d v w, Q (.panic c) (a.put d v) w → Q (.panic c) a w) :
    ∀ (l : Ords) (n : Nat) (listed : Array Bool) (a : Act) (w : World), okO ops l n listed = true → S w → wpO P ops Q S l a w → wpAnyH P .any ops Q S n listed a w
  | .nil, n, listed, a, w, ho, _, h => by
    simp only [okO, Bool.and_eq_true, beq_iff_eq] at ho
    obtain ⟨rfl, ho⟩ := ho
    exact ⟨ho, h⟩
  | .q i r, 0, listed, a, w, ho, _, h => by cases ho
  | .e i r, 0, listed, a, w, ho, _, h => by cases ho
  | .two i j ri rj, 0, listed, a, w, ho, _, h => by cases ho
  | .q i r, n + 1, listed, a, w, ho, hS, h => by
    obtain ⟨o, v, hi, hy, h⟩ := h
    simp only [okO, Bool.and_eq_true] at ho
    exact wpAnyH_take hi hs ho.1.2 ho.1.1 (fun c a w hq => hQ c a o.dst v w hq) hy hS (wpAnyH_of_O hs hQ r n _ _ _ ho.2 hS h)
  | .e i r, n + 1, listed, a, w, ho, hS, h => by
    simp only [okO, Bool.and_eq_true, beq_iff_eq] at ho
    refine wpAnyH_all ho.1 (by simp) (fun j hj => ?_)
    obtain rfl : j = i := by simpa using hj
    exact wpOp_mono (fun a' w' h' => ⟨h'.1, wpAnyH_of_O hs hQ r n _ _ _ ho.2 h'.1 h'.2⟩) h
  | .two i j ri rj, n + 1, listed, a, w, ho, hS, h => by
    simp only [okO, Bool.and_eq_true, beq_iff_eq] at ho
    refine wpAnyH_all ho.1.1 (by simp) (fun x hx => ?_)
    have hx' : x = i ∨ x = j := by simpa using hx
    rcases hx' with rfl | rfl
    · exact wpOp_mono (fun a' w' h' => ⟨h'.1, wpAnyH_of_O hs hQ ri n _ _ _ ho.1.2 h'.1 h'.2⟩) h.1
    · exact wpOp_mono (fun a' w' h' => ⟨h'.1, wpAnyH_of_O hs hQ rj n _ _ _ ho.2 h'.1 h'.2⟩) h.2
theorem o_nil {a : Act} {w : World} (h : Q .normal a w) : wpO P ops Q S .nil a w := h
end
section
variable {P : Program} {ops : Array Oper} {Q : Exit → Act → World → Prop} {w0 : World} {lo : List Oper} {X : Nat → Prop}
theorem gv_region (X : Nat → Prop) {id : Nat} {a : Act} {w : World} {lo : List Oper} (l : Ords) (hm : P.follows .mixedOrders = true)
    (hs : (Region.noSelect lo.toArray && okO lo.toArray l lo.length (Array.replicate lo.length false)) = true)
    (hQ : ∀ c (a : Act) d v w, Q (.panic c) (a.put d v) w → Q (.panic c) a w)
    (h : ∀ A : Array Oper, Hid (A = lo.toArray) → wpO P A Q (inGX X w) l a w.drew) : (Code.region id lo.toArray true).wp P Q a w := by
  simp only [Bool.and_eq_true] at hs
  have hS : inGX X w w.drew := ⟨⟨w.drew, (GrwX.self X w).then (Grw.drw w).x⟩, rfl⟩
  have := wpAnyH_of_O (S := inGX X w) hs.1 hQ l lo.length (Array.replicate lo.length false) a w.drew hs.2 hS (h _ rfl)
  exact wp_region_held (S := inGX X w) hm (by simpa using this)
theorem gv_q {i : Nat} {rest : Ords} {a : Act} {w : World} {o : Oper} (hA : Hid (ops = lo.toArray)) (ho : nth lo i = some o) (hg : o.guard = none) {v : Value}
    (h : ∀ p : GX X w0, (execOp a.eval o).run P p.out = .ok (.value v) p.out) (hk : wpO P ops Q (inGX X w0) rest (a.put o.dst v) w) : wpO P ops Q (inGX X w0) (.q i rest) a w :=
  ⟨o, v, nth_ops hA ho, .inl ⟨by simp [Region.wanted, hg], fun w' hw => by obtain ⟨p, rfl⟩ := hw; exact h p⟩, hk⟩
theorem gv_qg {i : Nat} {rest : Ords} {a : Act} {w : World} {o : Oper} (hA : Hid (ops = lo.toArray)) (ho : nth lo i = some o) (hg : Region.wanted o (yielded ops a.tmps) = true) {v : Value}
    (h : ∀ p : GX X w0, (execOp a.eval o).run P p.out = .ok (.value v) p.out) (hk : wpO P ops Q (inGX X w0) rest (a.put o.dst v) w) : wpO P ops Q (inGX X w0) (.q i rest) a w :=
  ⟨o, v, nth_ops hA ho, .inl ⟨hg, fun w' hw => by obtain ⟨p, rfl⟩ := hw; exact h p⟩, hk⟩
theorem gv_op {i : Nat} {a : Act} {w : World} {o : Oper} (hA : Hid (ops = lo.toArray)) (ho : nth lo i = some o) (hg : o.guard = none) {R : Act → World → Prop}
    (h : ∀ K : Act → World → Prop, (∀ a' w', R a' w' → K a' w') → o.wp P a w K Q) : wpOp P ops Q i R a w := by
  unfold wpOp
  simp only [nth_ops hA ho, Region.wanted, hg, if_true]
  exact .inl (h _ (fun a' w' h => h))
theorem gv_opg {i : Nat} {a : Act} {w : World} {o : Oper} (hA : Hid (ops = lo.toArray)) (ho : nth lo i = some o) (hg : Region.wanted o (yielded ops a.tmps) = true) {R : Act → World → Prop}
    (h : ∀ K : Act → World → Prop, (∀ a' w', R a' w' → K a' w') → o.wp P a w K Q) : wpOp P ops Q i R a w := by
  unfold wpOp
  simp only [nth_ops hA ho, hg, if_true]
  exact .inl (h _ (fun a' w' h => h))
theorem gv_e {i : Nat} {rest : Ords} {a : Act} {w : World} {o : Oper} (hA : Hid (ops = lo.toArray)) (ho : nth lo i = some o) (hg : o.guard = none)
    (h : ∀ K : Act → World → Prop, (∀ a' w', GrwX X w0 w' ∧ wpO P ops Q (inGX X w0) rest a' w' → K a' w') → o.wp P a w K Q) : wpO P ops Q (inGX X w0) (.e i rest) a w :=
  gv_op hA ho hg (fun K hK => h K (fun a' w' h => hK a' w' ⟨⟨⟨w', h.1⟩, rfl⟩, h.2⟩))
theorem gv_eg {i : Nat} {rest : Ords} {a : Act} {w : World} {o : Oper} (hA : Hid (ops = lo.toArray)) (ho : nth lo i = some o) (hg : Region.wanted o (yielded ops a.tmps) = true)
    (h : ∀ K : Act → World → Prop, (∀ a' w', GrwX X w0 w' ∧ wpO P ops Q (inGX X w0) rest a' w' → K a' w') → o.wp P a w K Q) : wpO P ops Q (inGX X w0) (.e i rest) a w :=
  gv_opg hA ho hg (fun K hK => h K (fun a' w' h => hK a' w' ⟨⟨⟨w', h.1⟩, rfl⟩, h.2⟩))
/-- either of two, neither of them guarded. -/
theorem gv_two {i j : Nat} {ri rj : Ords} {a : Act} {w : World} {o o' : Oper} (hA : Hid (ops = lo.toArray)) (ho : nth lo i = some o) (ho' : nth lo j = some o') (hg : o.guard = none) (hg' : o'.guard = none)
    (h : ∀ K : Act → World → Prop, (∀ a' w', GrwX X w0 w' ∧ wpO P ops Q (inGX X w0) ri a' w' → K a' w') → o.wp P a w K Q)
    (h' : ∀ K : Act → World → Prop, (∀ a' w', GrwX X w0 w' ∧ wpO P ops Q (inGX X w0) rj a' w' → K a' w') → o'.wp P a w K Q) : wpO P ops Q (inGX X w0) (.two i j ri rj) a w :=
  ⟨gv_op hA ho hg (fun K hK => h K (fun a' w' h => hK a' w' ⟨⟨⟨w', h.1⟩, rfl⟩, h.2⟩)), gv_op hA ho' hg' (fun K hK => h' K (fun a' w' h => hK a' w' ⟨⟨⟨w', h.1⟩, rfl⟩, h.2⟩))⟩
/-- one whose guard says no, that only looks. -/
theorem gv_g {i : Nat} {rest : Ords} {a : Act} {w : World} {o : Oper} (hA : Hid (ops = lo.toArray)) (ho : nth lo i = some o) (hg : Region.wanted o (yielded ops a.tmps) = false)
    (hk : wpO P ops Q (inGX X w0) rest (a.put o.dst undef) w) : wpO P ops Q (inGX X w0) (.q i rest) a w :=
  ⟨o, undef, nth_ops hA ho, .inr ⟨hg, rfl⟩, hk⟩
end
/-- the class of growth alone. -/
abbrev noX : Nat → Prop := fun _ => False
theorem GrwX.none {w w' : World} (h : GrwX noX w w') : Grw w w' := show Below _ _ _ from ⟨h.os, h.tape, h.output, h.size, fun i hi => h.block i hi (fun h => h)⟩
end Go.Proofs.YtbfdnfkflnajlaaGreat

/-! A region that draws its order in a deferred closure that recovers: each order is walked. -/
namespace Go.Proofs.YtbfdnfkflnajlaaGreat
open Go.RowKit

/-- the orders, as lists. -/
def ordsOf : Ords → List (List Nat)
  | .nil => [[]]
  | .q i r => (ordsOf r).map (i :: ·)
  | .e i r => (ordsOf r).map (i :: ·)
  | .two i j ri rj => (ordsOf ri).map (i :: ·) ++ (ordsOf rj).map (j :: ·)
/-- are these the orders? -/
def okE (ops : Array Oper) : Ords → Nat → Array Bool → Bool
  | .nil, n, listed => (n == 0) && (Region.ready .any ops listed == [])
  | .q _ _, _, _ => false
  | .e _ _, 0, _ => false
  | .two _ _ _ _, 0, _ => false
  | .e i r, n + 1, listed => Region.ready .any ops listed == [i] && okE ops r n (listed.setIfInBounds i true)
  | .two i j ri rj, n + 1, listed => Region.ready .any ops listed == [i, j] && okE ops ri n (listed.setIfInBounds i true) && okE ops rj n (listed.setIfInBounds j true)
theorem lin_of_E (ops : Array Oper) : ∀ (l : Ords) (n t : Nat) (listed : Array Bool), okE ops l n listed = true → Region.linearise.go .any ops n t listed [] ∈ ordsOf l
  | .nil, n, t, listed, h => by
    simp only [okE, Bool.and_eq_true, beq_iff_eq] at h
    obtain ⟨rfl, h⟩ := h
    simp [Region.linearise.go, ordsOf]
  | .q _ _, _, _, _, h => by cases h
  | .e _ _, 0, _, _, h => by cases h
  | .two _ _ _ _, 0, _, _, h => by cases h
  | .e i r, n + 1, t, listed, h => by
    simp only [okE, Bool.and_eq_true, beq_iff_eq] at h
    simp only [Region.linearise.go]
    change (match (Region.ready .any ops listed)[t % (Region.ready .any ops listed).length]? with
      | some i => Region.linearise.go .any ops n (t / (Region.ready .any ops listed).length) (listed.setIfInBounds i true) [i]
      | none => [].reverse) ∈ _
    rw [h.1]
    simp only [List.length_singleton, Nat.mod_one, List.getElem?_cons_zero]
    rw [linearise_go_acc]
    exact List.mem_map.2 ⟨_, lin_of_E ops r n (t / 1) _ h.2, rfl⟩
  | .two i j ri rj, n + 1, t, listed, h => by
    simp only [okE, Bool.and_eq_true, beq_iff_eq] at h
    simp only [Region.linearise.go]
    change (match (Region.ready .any ops listed)[t % (Region.ready .any ops listed).length]? with
      | some i => Region.linearise.go .any ops n (t / (Region.ready .any ops listed).length) (listed.setIfInBounds i true) [i]
      | none => [].reverse) ∈ _
    rw [h.1.1]
    simp only [List.length_cons, List.length_nil]
    rcases Nat.mod_two_eq_zero_or_one t with h0 | h0
    · simp only [Nat.zero_add, h0, Nat.reduceAdd, List.getElem?_cons_zero]
      rw [linearise_go_acc]
      exact List.mem_append.2 (.inl (List.mem_map.2 ⟨_, lin_of_E ops ri n (t / 2) _ h.1.2, rfl⟩))
    · simp only [Nat.zero_add, h0, Nat.reduceAdd, List.getElem?_cons_succ, List.getElem?_cons_zero]
      rw [linearise_go_acc]
      exact List.mem_append.2 (.inr (List.mem_map.2 ⟨_, lin_of_E ops rj n (t / 2) _ h.2, rfl⟩))
/-- THE BEGINNING of such a region. -/
theorem wpS_region_O {P : Program} {Q : Exit → Act → List Frame → World → Prop} {a : Act} {cs : List Frame} {w : World} {id : Nat} {ops : Array Oper} (l : Ords) (hm : P.follows .mixedOrders = true)
    (hok : okE ops l ops.size (Array.replicate ops.size false) = true) (h : ∀ o ∈ ordsOf l, wpOpsS P ops Q o a cs w.drew) : (Code.region id ops true).wpS P Q a cs w := by
  intro b k hb hr
  have hs := lin_of_E ops l ops.size (w.tape w.drawn (.order b.fn id)) (Array.replicate ops.size false) hok
  obtain ⟨e, a', cs', w', q, r⟩ := wp_opsS _ a cs w.drew (h _ hs) b k hb hr
  refine ⟨e, a', cs', w', q, .of_steps (.one step_region_draw) ?_⟩
  simp only [Region.schedule, hm, Bool.true_or, if_true]
  exact r
end Go.Proofs.YtbfdnfkflnajlaaGreat
