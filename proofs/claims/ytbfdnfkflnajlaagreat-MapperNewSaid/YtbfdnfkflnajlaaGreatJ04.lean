/-
  Plain: what a write plans. No program in sight. Plain: the room of a family is not below 0 behind a change that is permitted. No program in sight.
-/
import Derived.Test.YtbfdnfkflnajlaaGreatJ03
set_option linter.unusedVariables false
set_option linter.unusedSimpArgs false
/-! Plain: what a write plans. No program in sight. -/
namespace Go.Proofs.YtbfdnfkflnajlaaGreat
open Ext hiding One

/-- numbers from a on; the slots that runs contain. -/
def rngL (a : Int) (j : Nat) : List Int := (List.range j).map fun (i : Nat) => a + (i : Int)
def slotsL (l : List Ext) : List Int := l.flatMap fun x => rngL x.slot x.len.toNat
theorem mem_rngL {a s : Int} {j : Nat} : s ∈ rngL a j ↔ a ≤ s ∧ s < a + j := by
  unfold rngL
  simp only [List.mem_map, List.mem_range]
  constructor
  · rintro ⟨i, hi, rfl⟩; omega
  · intro h; exact ⟨(s - a).toNat, by omega, by omega⟩
theorem rngL_nodup (a : Int) (j : Nat) : (rngL a j).Nodup := by
  unfold rngL
  rw [List.Nodup, List.pairwise_map]
  exact List.nodup_range.imp fun h e => h (by omega)
theorem slotsL_len {N : Nat} {t : List Ext} (h : inL1 N t) : ((slotsL t).length : Int) = sumL t := by
  induction t with
  | nil => rfl
  | cons x t ih =>
    have hx := h x (by simp)
    have := ih (fun y hy => h y (by simp [hy]))
    simp only [slotsL, List.flatMap_cons, List.length_append, sumL] at this ⊢
    simp only [rngL, List.length_map, List.length_range] at this ⊢
    omega
theorem slotsL_occ {N : Nat} {t : List Ext} (h : inL1 N t) {s : Int} (hs : s ∈ slotsL t) : 0 ≤ s ∧ s < N ∧ 1 ≤ occL t s.toNat := by
  obtain ⟨x, hx, hm⟩ := List.mem_flatMap.1 hs
  rw [mem_rngL] at hm
  have h1 := h x hx
  have h2 := occL_mem hx s.toNat
  rw [occ1_iff.2 (by omega)] at h2
  exact ⟨by omega, by omega, h2⟩
theorem slotsL_nodup {N : Nat} {t : List Ext} (h : inL1 N t) (h1 : ∀ i, occL t i ≤ 1) : (slotsL t).Nodup := by
  induction t with
  | nil => exact List.nodup_nil
  | cons x t ih =>
    have hx := h x (by simp)
    have ht : inL1 N t := fun y hy => h y (by simp [hy])
    have hi := ih ht (fun i => by have := h1 i; have := (occ1_bound x.slot (x.slot + x.len) i).1; simp only [occL] at *; omega)
    show (rngL x.slot x.len.toNat ++ slotsL t).Nodup
    rw [List.nodup_append]
    refine ⟨rngL_nodup _ _, hi, fun a ha b hb e => ?_⟩
    subst e
    rw [mem_rngL] at ha
    have h2 := (slotsL_occ ht hb).2.2
    have h3 := h1 a.toNat
    simp only [occL] at h3
    rw [occ1_iff.2 (by omega)] at h3
    omega

/-- the slot that a block keeps. -/
def keepV (c : Nat → Int) (l : List Ext) (a : Int) (i : Nat) : Option Int :=
  match fnd l (a + i) with
  | some s => if c s.toNat = 1 then some s else none
  | none => none
/-- how many of the first blocks get a fresh slot. -/
def used (kp : Nat → Option Int) : Nat → Nat
  | 0 => 0
  | n + 1 => used kp n + (if (kp n).isNone then 1 else 0)
/-- the slot that a block gets. -/
def slotP (kp : Nat → Option Int) (fr : List Int) (i : Nat) : Int := (kp i).getD (fr.getD (used kp i) 0)
/-- the changes of the first blocks. -/
def chgsP (kp : Nat → Option Int) (fr : List Int) (a : Int) : Nat → List Ext
  | 0 => []
  | n + 1 => chgsP kp fr a n ++ (if (kp n).isNone then [⟨a + n, 1, fr.getD (used kp n) 0⟩] else [])
theorem used_le (kp : Nat → Option Int) : ∀ {i n : Nat}, i ≤ n → used kp i ≤ used kp n
  | i, 0, h => by obtain rfl : i = 0 := by omega
                  exact Nat.le_refl _
  | i, n + 1, h => by
    rcases Nat.lt_or_ge i (n + 1) with h1 | h1
    · have := used_le kp (i := i) (n := n) (by omega)
      simp only [used]; omega
    · obtain rfl : i = n + 1 := by omega
      exact Nat.le_refl _
theorem used_lt (kp : Nat → Option Int) {i n : Nat} (h : i < n) (hk : kp i = none) : used kp i < used kp n := by
  have h1 := used_le kp (i := i + 1) (n := n) (by omega)
  simp only [used, hk, Option.isNone_none, if_true] at h1
  omega
theorem used_bound (kp : Nat → Option Int) : ∀ n : Nat, used kp n ≤ n
  | 0 => Nat.le_refl _
  | n + 1 => by have := used_bound kp n; simp only [used]; split <;> omega
/-- how many of the listed slots are listed but once in all. -/
def excL (c : Nat → Int) (N : Nat) (l : List Ext) : Int := sumTo (fun s => if c s = 1 then occL l s else 0) N
theorem exc_excL (f : Fam) (l : List Ext) : f.exc l = excL f.cnt f.slots l := rfl
theorem occ_partE (x : Ext) (c d : Int) (i : Nat) : occL (partE x c d).toList i = if max x.at_ c < min (x.at_ + x.len) d then occ1 (x.slot + max x.at_ c - x.at_) (x.slot + min (x.at_ + x.len) d - x.at_) i else 0 := by
  unfold partE
  split
  · simp only [Option.toList_some, occL, Int.add_zero]
    congr 1
    omega
  · simp [occL]
theorem occ_grow {l : List Ext} (h : VL l) {a b : Int} (hab : a ≤ b) (i : Nat) : occL (partsL l a (b + 1)) i = occL (partsL l a b) i + (if fnd l b = some (i : Int) then 1 else 0) := by
  induction l with
  | nil => simp [partsL, occL, fnd]
  | cons x l ih =>
    have ih := ih h.tail
    have hx := h.1 x (by simp)
    unfold Ext.One at hx
    have hp := List.pairwise_cons.1 h.2
    rw [parts_cons, parts_cons, occL_append, occL_append, ih, occ_partE, occ_partE]
    by_cases hc : x.at_ ≤ b ∧ b < x.at_ + x.len
    · have hn : fnd l b = none := fnd_none fun y hy => by
        have := hp.1 y hy
        unfold sep at this
        omega
      have hf : fnd (x :: l) b = some (x.slot + b - x.at_) := by rw [fnd, if_pos hc]
      rw [hn, hf]
      simp only [Option.some.injEq, reduceCtorEq, if_false]
      unfold occ1
      repeat' split
      all_goals omega
    · have hf : fnd (x :: l) b = fnd l b := by rw [fnd, if_neg hc]
      rw [hf]
      have : (if max x.at_ a < min (x.at_ + x.len) (b + 1) then occ1 (x.slot + max x.at_ a - x.at_) (x.slot + min (x.at_ + x.len) (b + 1) - x.at_) i else 0) = if max x.at_ a < min (x.at_ + x.len) b then occ1 (x.slot + max x.at_ a - x.at_) (x.slot + min (x.at_ + x.len) b - x.at_) i else 0 := by
        unfold occ1
        repeat' split
        all_goals omega
      omega
theorem sumTo_at (p : Nat) (c : Int) : ∀ n : Nat, sumTo (fun s => if s = p then c else 0) n = if p < n then c else 0
  | 0 => by simp [sumTo]
  | n + 1 => by
    rw [sumTo, sumTo_at p c n]
    split <;> split <;> (try split) <;> omega
theorem exc_grow {c : Nat → Int} {N : Nat} {l : List Ext} (h : VL l) (hN : inL1 N l) {a b : Int} (hab : a ≤ b) :
    excL c N (partsL l a (b + 1)) = excL c N (partsL l a b) + (match fnd l b with | some s => if c s.toNat = 1 then 1 else 0 | none => 0) := by
  have e : excL c N (partsL l a (b + 1)) = sumTo (fun s => (if c s = 1 then occL (partsL l a b) s else 0) + (if fnd l b = some (s : Int) then (if c s = 1 then 1 else 0) else 0)) N := by
    unfold excL
    refine sumTo_congr fun i _ => ?_
    rw [occ_grow h hab]
    split <;> split <;> omega
  rw [e, sumTo_add]
  show excL c N (partsL l a b) + _ = _
  congr 1
  cases hf : fnd l b with
  | none => simp only [reduceCtorEq, if_false]; exact sumTo_zero N
  | some s =>
    obtain ⟨x, hx, h1, h2, h3⟩ := fnd_some hf
    have hxN := hN x hx
    have e2 : ∀ i : Nat, (if some s = some (i : Int) then (if c i = 1 then (1 : Int) else 0) else 0) = if i = s.toNat then (if c s.toNat = 1 then 1 else 0) else 0 := by
      intro i
      by_cases hi : i = s.toNat
      · subst hi; rw [if_pos (by simp only [Option.some.injEq]; omega), if_pos rfl]
      · rw [if_neg (by simp only [Option.some.injEq]; omega), if_neg hi]
    simp only [e2]
    rw [sumTo_at, if_pos (by omega)]
/-- a range needs as many fresh slots as blocks of it are not exclusive. -/
theorem exc_used {c : Nat → Int} {N : Nat} {l : List Ext} (h : VL l) (hN : inL1 N l) (a : Int) : ∀ n : Nat, (used (keepV c l a) n : Int) + excL c N (partsL l a (a + n)) = n
  | 0 => by
    have : partsL l a (a + (0 : Nat)) = [] := List.eq_nil_iff_forall_not_mem.2 fun y hy => by have := parts_range hy; omega
    rw [this]
    simp only [used, excL]
    have := sumTo_zero N
    simp only [occL]
    rw [show (fun s => if c s = 1 then (0 : Int) else 0) = fun _ => 0 from funext fun s => by split <;> rfl, this]
    rfl
  | n + 1 => by
    have ih := exc_used (c := c) h hN a n
    have hg := exc_grow (c := c) h hN (a := a) (b := a + n) (by omega)
    rw [show a + ((n + 1 : Nat) : Int) = a + n + 1 by omega, hg]
    cases hf : fnd l (a + n) with
    | none =>
      have hk : keepV c l a n = none := by unfold keepV; rw [hf]
      simp only [used, hk, Option.isNone_none, if_true]; omega
    | some s =>
      simp only
      by_cases h1 : c s.toNat = 1
      · have hk : keepV c l a n = some s := by unfold keepV; rw [hf]; simp only [h1, if_true]
        simp only [used, hk, h1, if_true, Option.isNone_some, Bool.false_eq_true, if_false]; omega
      · have hk : keepV c l a n = none := by unfold keepV; rw [hf]; simp only [h1, if_false]
        simp only [used, hk, h1, if_false, Option.isNone_none, if_true]; omega

theorem mem_chgs {kp : Nat → Option Int} {fr : List Int} {a : Int} {x : Ext} : ∀ {n : Nat}, x ∈ chgsP kp fr a n → ∃ i, i < n ∧ kp i = none ∧ x = ⟨a + i, 1, fr.getD (used kp i) 0⟩
  | 0, h => by cases h
  | n + 1, h => by
    rcases List.mem_append.1 h with h | h
    · obtain ⟨i, hi, r⟩ := mem_chgs h; exact ⟨i, by omega, r⟩
    · cases hk : kp n with
      | none => rw [hk] at h; simp at h; exact ⟨n, by omega, hk, by simpa using h⟩
      | some s => rw [hk] at h; simp at h
theorem chgs_mem {kp : Nat → Option Int} {fr : List Int} {a : Int} {i : Nat} : ∀ {n : Nat}, i < n → kp i = none → (⟨a + i, 1, fr.getD (used kp i) 0⟩ : Ext) ∈ chgsP kp fr a n
  | 0, h, _ => by omega
  | n + 1, h, hk => by
    rcases Nat.lt_or_ge i n with h1 | h1
    · exact List.mem_append_left _ (chgs_mem h1 hk)
    · obtain rfl : i = n := by omega
      refine List.mem_append_right _ ?_
      rw [hk]; simp
theorem chgs_len (kp : Nat → Option Int) (fr : List Int) (a : Int) : ∀ n : Nat, (chgsP kp fr a n).length = used kp n
  | 0 => rfl
  | n + 1 => by
    simp only [chgsP, used, List.length_append, chgs_len kp fr a n]
    split <;> simp
/-- the fresh slots are as they should be. -/
structure FreshL (N : Nat) (c : Nat → Int) (fr : List Int) : Prop where
  nodup : fr.Nodup
  slot : ∀ s ∈ fr, 0 ≤ s ∧ s < N ∧ c s.toNat = 0
theorem FreshL.at {N : Nat} {c : Nat → Int} {fr : List Int} (h : FreshL N c fr) {i : Nat} (hi : i < fr.length) : 0 ≤ fr.getD i 0 ∧ fr.getD i 0 < N ∧ c (fr.getD i 0).toNat = 0 := by
  rw [List.getD_eq_getElem?_getD, List.getElem?_eq_getElem hi]
  exact h.slot _ (List.getElem_mem hi)
theorem FreshL.inj {N : Nat} {c : Nat → Int} {fr : List Int} (h : FreshL N c fr) {i j : Nat} (hi : i < fr.length) (hj : j < fr.length) (e : fr.getD i 0 = fr.getD j 0) : i = j := by
  simp only [List.getD_eq_getElem?_getD, List.getElem?_eq_getElem hi, List.getElem?_eq_getElem hj, Option.getD_some] at e
  exact (List.getElem_inj h.nodup).1 e
theorem chgs_VL {N n : Nat} {c : Nat → Int} {kp : Nat → Option Int} {fr : List Int} {a : Int} (h : FreshL N c fr) (hN : N ≤ 65536) (hu : used kp n ≤ fr.length) (h0 : 0 ≤ a) (h1 : a + n ≤ 65536) : VL (chgsP kp fr a n) := by
  constructor
  · intro x hx
    obtain ⟨i, hi, hk, rfl⟩ := mem_chgs hx
    have := h.at (i := used kp i) (by have := used_lt kp hi hk; omega)
    unfold Ext.One
    simp only
    omega
  · clear hu h1
    induction n with
    | zero => exact List.Pairwise.nil
    | succ n ih =>
      show List.Pairwise sep (chgsP kp fr a n ++ _)
      rw [List.pairwise_append]
      refine ⟨ih, ?_, fun x hx y hy => ?_⟩
      · split
        · exact List.pairwise_singleton _ _
        · exact List.Pairwise.nil
      · obtain ⟨i, hi, hk, rfl⟩ := mem_chgs hx
        split at hy
        · rw [List.mem_singleton.1 hy]; unfold sep; simp only; omega
        · cases hy
theorem chgs_in {N n : Nat} {c : Nat → Int} {kp : Nat → Option Int} {fr : List Int} {a : Int} (h : FreshL N c fr) (hu : used kp n ≤ fr.length) : inL1 N (chgsP kp fr a n) := by
  intro x hx
  obtain ⟨i, hi, hk, rfl⟩ := mem_chgs hx
  have := h.at (i := used kp i) (by have := used_lt kp hi hk; omega)
  simp only
  omega
theorem chgs_fnd {kp : Nat → Option Int} {fr : List Int} {a : Int} (k : Int) : ∀ n : Nat, fnd (chgsP kp fr a n) k = if a ≤ k ∧ k < a + n ∧ kp (k - a).toNat = none then some (fr.getD (used kp (k - a).toNat) 0) else none
  | 0 => by rw [if_neg (by omega)]; rfl
  | n + 1 => by
    show fnd (chgsP kp fr a n ++ _) k = _
    rw [fnd_append, chgs_fnd k n]
    by_cases hk : k = a + n
    · subst hk
      rw [if_neg (by omega), show (a + (n : Int) - a).toNat = n by omega]
      cases hn : kp n with
      | none =>
        simp only [Option.isNone_none, if_true, fnd]
        rw [if_pos (by omega), if_pos (by refine ⟨by omega, by omega, ?_⟩; trivial)]
        simp only [Option.none_or, Option.some.injEq]; omega
      | some s => simp [fnd]
    · have e : fnd (if (kp n).isNone then [(⟨a + n, 1, fr.getD (used kp n) 0⟩ : Ext)] else []) k = none := by
        split
        · simp only [fnd]; rw [if_neg (by omega)]
        · rfl
      rw [e, Option.or_none]
      by_cases hc : a ≤ k ∧ k < a + n ∧ kp (k - a).toNat = none
      · rw [if_pos hc, if_pos ⟨hc.1, by omega, hc.2.2⟩]
      · rw [if_neg hc, if_neg (fun h => hc ⟨h.1, by omega, h.2.2⟩)]

/-! ### the normal form -/
theorem push_NF {C : List Ext} {x : Ext} (hC : NF C) (hx : x.One) (hs : ∀ z ∈ C, z.sep x) : NF (pushL C x) := by
  rcases List.eq_nil_or_concat C with rfl | ⟨A, z, rfl⟩
  · rw [pushL_nil]; exact ⟨fun y hy => by rw [List.mem_singleton.1 hy]; exact hx, List.pairwise_singleton _ _⟩
  · rw [List.concat_eq_append] at *
    rw [pushL_snoc]
    have hz := hC.1 z (by simp)
    have hsz := hs z (by simp)
    obtain ⟨p1, p2, p3⟩ := List.pairwise_append.1 hC.2
    unfold Ext.One sep at *
    split
    · rename_i hf
      rw [fol_iff] at hf
      refine ⟨fun y hy => ?_, ?_⟩
      · rcases List.mem_append.1 hy with hy | hy
        · exact hC.1 y (by simp [hy])
        · rw [List.mem_singleton.1 hy]; unfold Ext.One; simp only; omega
      · rw [List.pairwise_append]
        refine ⟨p1, List.pairwise_singleton _ _, fun u hu y hy => ?_⟩
        rw [List.mem_singleton.1 hy]
        have := p3 u hu z (by simp)
        unfold nsep at *
        rw [nfol_iff] at *
        exact this
    · rename_i hf
      refine ⟨fun y hy => ?_, ?_⟩
      · rcases List.mem_append.1 hy with hy | hy
        · exact hC.1 y (by simp [hy])
        · simp only [List.mem_cons, List.not_mem_nil, or_false] at hy
          rcases hy with rfl | rfl
          · exact hz
          · exact hx
      · rw [List.pairwise_append]
        refine ⟨p1, ?_, fun u hu y hy => ?_⟩
        · simp only [List.pairwise_cons, List.mem_singleton, forall_eq, List.not_mem_nil, false_imp_iff, implies_true, List.Pairwise.nil, and_true]
          exact ⟨hsz, by simpa using hf⟩
        · simp only [List.mem_cons, List.not_mem_nil, or_false] at hy
          rcases hy with rfl | rfl
          · exact p3 u hu _ (by simp)
          · have h1 := p3 u hu z (by simp)
            have h2 := hC.1 u (by simp [hu])
            unfold nsep Ext.One at *
            rw [nfol_iff] at *
            omega
theorem fold_NF : ∀ (l C : List Ext), NF C → VL l → (∀ z ∈ C, ∀ x ∈ l, z.sep x) → NF (l.foldl pushL C)
  | [], C, h, _, _ => h
  | x :: l, C, hC, hl, hs => by
    have hx := hl.1 x (by simp)
    have hp := List.pairwise_cons.1 hl.2
    refine fold_NF l _ (push_NF hC hx fun z hz => hs z hz x (by simp)) hl.tail fun z hz y hy => ?_
    have hy1 := hp.1 y hy
    rcases List.eq_nil_or_concat C with rfl | ⟨A, u, rfl⟩
    · rw [pushL_nil] at hz; rw [List.mem_singleton.1 hz]; exact hy1
    · rw [List.concat_eq_append] at *
      rw [pushL_snoc] at hz
      split at hz
      · rename_i hf
        rw [fol_iff] at hf
        rcases List.mem_append.1 hz with hz | hz
        · exact hs z (by simp [hz]) y (by simp [hy])
        · rw [List.mem_singleton.1 hz]; unfold sep at *; simp only; omega
      · rcases List.mem_append.1 hz with hz | hz
        · exact hs z (by simp [hz]) y (by simp [hy])
        · simp only [List.mem_cons, List.not_mem_nil, or_false] at hz
          rcases hz with rfl | rfl
          · exact hs z (by simp) y (by simp [hy])
          · exact hy1
theorem join_NF {l : List Ext} (h : VL l) : NF (joinL l) := fold_NF l [] NF.nil h (by simp)
theorem push_len_le (C : List Ext) (x : Ext) : (pushL C x).length ≤ C.length + 1 := by
  rcases List.eq_nil_or_concat C with rfl | ⟨A, z, rfl⟩
  · simp [pushL_nil]
  · rw [List.concat_eq_append] at *
    rw [pushL_snoc]; split <;> simp
theorem fold_len_le : ∀ (l C : List Ext), (l.foldl pushL C).length ≤ C.length + l.length
  | [], C => by simp
  | x :: l, C => by
    have := fold_len_le l (pushL C x)
    have := push_len_le C x
    simp only [List.foldl_cons, List.length_cons]; omega
theorem join_len_le (l : List Ext) : (joinL l).length ≤ l.length := by have := fold_len_le l []; simpa [joinL] using this
theorem join_in {N : Nat} {l : List Ext} (h : VL l) (hl : inL1 N l) : inL1 N (joinL l) := by
  have hn := join_NF h
  refine inL1_of_occ (fun x hx => ⟨(hn.1 x hx).2.1, (hn.1 x hx).2.2.1⟩) fun i hi => ?_
  rw [occL_join l i fun z hz => (hl z hz).2.1, occ_of_inL1 hl i hi]
/-- a list with extents put in, one after the other. -/
def putLs (l xs : List Ext) : List Ext := xs.foldl putL l
theorem putLs_NF {l : List Ext} (h : NF l) {xs : List Ext} (hx : ∀ x ∈ xs, x.One) : NF (putLs l xs) := by
  induction xs generalizing l with
  | nil => exact h
  | cons x xs ih => exact ih (putL_NF h (hx x (by simp))) (fun y hy => hx y (by simp [hy]))
theorem putLs_fnd {l : List Ext} (h : NF l) {xs : List Ext} (hx : VL xs) (k : Int) : fnd (putLs l xs) k = (fnd xs k).or (fnd l k) := by
  induction xs generalizing l with
  | nil => simp [putLs, fnd]
  | cons x xs ih =>
    have h1 := hx.1 x (by simp)
    have hp := List.pairwise_cons.1 hx.2
    show fnd (putLs (putL l x) xs) k = _
    rw [ih (putL_NF h h1) hx.tail, fnd_put h h1, fnd]
    by_cases hc : x.at_ ≤ k ∧ k < x.at_ + x.len
    · have : fnd xs k = none := fnd_none fun y hy => by have := hp.1 y hy; unfold sep at this; omega
      rw [this, if_pos hc, if_pos hc]; rfl
    · rw [if_neg hc, if_neg hc]
theorem putLs_below {l xs : List Ext} {n : Int} (h : below n l) (hx : ∀ x ∈ xs, x.at_ + x.len ≤ n) : below n (putLs l xs) := by
  induction xs generalizing l with
  | nil => exact h
  | cons x xs ih => exact ih (below_put h (hx x (by simp))) (fun y hy => hx y (by simp [hy]))
theorem putLs_in {N : Nat} {l xs : List Ext} (h : NF l) (hl : inL1 N l) (hx : ∀ x ∈ xs, x.One) (hs : ∀ x ∈ xs, x.slot + x.len ≤ N) : inL1 N (putLs l xs) := by
  induction xs generalizing l with
  | nil => exact hl
  | cons x xs ih => exact ih (putL_NF h (hx x (by simp))) (putL_in h hl (hx x (by simp)) (hs x (by simp))) (fun y hy => hx y (by simp [hy])) (fun y hy => hs y (by simp [hy]))
theorem putLs_snoc (l xs : List Ext) (x : Ext) : putLs l (xs ++ [x]) = putL (putLs l xs) x := by simp [putLs, List.foldl_append]
/-- where a block is mapped behind a write. -/
theorem plan_fnd {N n : Nat} {c : Nat → Int} {l : List Ext} {fr : List Int} {a : Int} (h : NF l) (hf : FreshL N c fr) (hN : N ≤ 65536) (hu : used (keepV c l a) n ≤ fr.length) (h0 : 0 ≤ a) (h1 : a + n ≤ 65536) (k : Int) :
    fnd (putLs l (joinL (chgsP (keepV c l a) fr a n))) k = if a ≤ k ∧ k < a + n then some (slotP (keepV c l a) fr (k - a).toNat) else fnd l k := by
  have hv := chgs_VL (kp := keepV c l a) hf hN hu h0 h1
  rw [putLs_fnd h (join_NF hv).vl, fnd_join _ _ fun z hz => (hv.1 z hz).2.2.1, chgs_fnd]
  by_cases hk : a ≤ k ∧ k < a + n
  · rw [if_pos hk]
    unfold slotP
    cases hp : keepV c l a (k - a).toNat with
    | none => rw [if_pos ⟨hk.1, hk.2, rfl⟩]; simp
    | some s =>
      rw [if_neg (by simp)]
      simp only [Option.none_or, Option.getD_some]
      unfold keepV at hp
      rw [show a + ((k - a).toNat : Int) = k by omega] at hp
      cases hf : fnd l k with
      | none => rw [hf] at hp; cases hp
      | some t =>
        rw [hf] at hp
        simp only at hp
        split at hp
        · exact hp
        · cases hp
  · rw [if_neg hk, if_neg (fun h => hk ⟨h.1, h.2.1⟩)]; rfl
end Go.Proofs.YtbfdnfkflnajlaaGreat

/-! Plain: the room of a family is not below 0 behind a change that is permitted. No program in sight. -/
namespace Go.Proofs.YtbfdnfkflnajlaaGreat
open Ext hiding One

/-! ### how often a list lists a slot, block by block -/
theorem sumTo_split (F : Nat → Int) (a : Nat) : ∀ n : Nat, sumTo F (a + n) = sumTo F a + sumTo (fun i => F (a + i)) n
  | 0 => by simp [sumTo]
  | n + 1 => by
    have := sumTo_split F a n
    rw [← Nat.add_assoc]
    simp only [sumTo]
    omega
theorem sumTo_nonneg {F : Nat → Int} (h : ∀ i, 0 ≤ F i) : ∀ n : Nat, 0 ≤ sumTo F n
  | 0 => Int.le_refl _
  | n + 1 => by have := sumTo_nonneg h n; have := h n; simp only [sumTo]; omega
theorem sumTo_patch {F G K : Nat → Int} {a n M : Nat} (hM : a + n ≤ M) (h1 : ∀ i, i < n → G (a + i) = K i) (h2 : ∀ k, ¬ (a ≤ k ∧ k < a + n) → G k = F k) :
    sumTo G M = sumTo F M - sumTo (fun i => F (a + i)) n + sumTo K n := by
  obtain ⟨m, rfl⟩ : ∃ m, M = a + n + m := ⟨M - (a + n), by omega⟩
  rw [sumTo_split G, sumTo_split G, sumTo_split F, sumTo_split F]
  rw [sumTo_congr (f := G) (g := F) (n := a) (fun i hi => h2 i (by omega)), sumTo_congr (f := fun i => G (a + i)) (g := K) (fun i hi => h1 i hi),
    sumTo_congr (f := fun i => G (a + n + i)) (g := fun i => F (a + n + i)) (fun i hi => h2 _ (by omega))]
  omega
theorem occ_upto {l : List Ext} (h : VL l) (s : Nat) : ∀ n : Nat, occL (partsL l 0 n) s = sumTo (fun k => if fnd l (k : Int) = some (s : Int) then 1 else 0) n
  | 0 => by
    have : partsL l 0 ((0 : Nat) : Int) = [] := List.eq_nil_iff_forall_not_mem.2 fun y hy => by have := parts_range hy; omega
    rw [this]; rfl
  | n + 1 => by
    have := occ_grow h (a := 0) (b := n) (by omega) s
    rw [show ((n + 1 : Nat) : Int) = n + 1 by omega, this, occ_upto h s n]
    rfl
theorem occ_blocks {l : List Ext} (h : VL l) (s : Nat) : occL l s = sumTo (fun k => if fnd l (k : Int) = some (s : Int) then 1 else 0) 65536 := by
  rw [← occ_upto h s 65536, parts_all fun x hx => by have := h.1 x hx; exact ⟨this, this.1, this.2.2.2.1⟩]
/-- .. behind a change of a range. -/
theorem occ_patch {l m : List Ext} (h : VL l) (hm : VL m) {a n : Nat} (ha : a + n ≤ 65536) {P : Nat → Option Int} (h1 : ∀ k : Int, fnd m k = if (a : Int) ≤ k ∧ k < a + n then P (k - a).toNat else fnd l k) (s : Nat) :
    occL m s = occL l s - sumTo (fun i => if fnd l (a + i) = some (s : Int) then 1 else 0) n + sumTo (fun i => if P i = some (s : Int) then 1 else 0) n := by
  rw [occ_blocks hm, occ_blocks h]
  have := sumTo_patch (F := fun k => if fnd l (k : Int) = some (s : Int) then (1 : Int) else 0) (G := fun k => if fnd m (k : Int) = some (s : Int) then (1 : Int) else 0) (K := fun i => if P i = some (s : Int) then (1 : Int) else 0) ha
    (fun i hi => by
      have e : fnd m ((a + i : Nat) : Int) = P i := by rw [h1, if_pos (by omega), show (((a + i : Nat) : Int) - a).toNat = i by omega]
      simp only [e])
    (fun k hk => by
      have e : fnd m (k : Int) = fnd l k := by rw [h1, if_neg (by omega)]
      simp only [e])
  rw [this]
  congr 2

/-! ### claims -/
def claimC (c : Nat → Int) (N : Nat) (v : Vol) : Int := max 0 (v.res - excL c N v.l)
def freeC (c : Nat → Int) (N : Nat) : Int := sumTo (fun s => if c s = 0 then 1 else 0) N
theorem room_eq (f : Fam) : f.room = freeC f.cnt f.slots - sumV (claimC f.cnt f.slots) f.vols := rfl
theorem sumV_app (g : Vol → Int) (a b : List Vol) : sumV g (a ++ b) = sumV g a + sumV g b := by
  induction a with
  | nil => simp [sumV]
  | cons v a ih => simp only [List.cons_append, sumV, ih]; omega
theorem sumV_le {g g' : Vol → Int} {a : List Vol} (h : ∀ v ∈ a, g v ≤ g' v) : sumV g a ≤ sumV g' a := by
  induction a with
  | nil => exact Int.le_refl _
  | cons v a ih =>
    have := h v (by simp)
    have := ih fun w hw => h w (by simp [hw])
    simp only [sumV]; omega
theorem excL_le {c c' : Nat → Int} {N : Nat} {l : List Ext} (h : ∀ s, s < N → c s = 1 → 1 ≤ occL l s → c' s = 1) : excL c N l ≤ excL c' N l := by
  refine sumTo_le fun s hs => ?_
  have h0 := (occL_bound l s).1
  have := h s hs
  split
  · rename_i h1
    split
    · exact Int.le_refl _
    · rename_i h2
      refine Int.not_lt.1 fun hlt => h2 (this h1 (by omega))
  · split
    · exact h0
    · exact Int.le_refl _
theorem claimsC_le {c c' : Nat → Int} {N : Nat} {a : List Vol} (h : ∀ v ∈ a, ∀ s, s < N → c s = 1 → 1 ≤ occL v.l s → c' s = 1) : sumV (claimC c' N) a ≤ sumV (claimC c N) a := by
  refine sumV_le fun v hv => ?_
  have := excL_le (l := v.l) (h v hv)
  unfold claimC
  omega
theorem claimC_nonneg (c : Nat → Int) (N : Nat) (v : Vol) : 0 ≤ claimC c N v := by unfold claimC; omega
theorem sumV_nonneg {g : Vol → Int} (h : ∀ v, 0 ≤ g v) (a : List Vol) : 0 ≤ sumV g a := by
  induction a with
  | nil => exact Int.le_refl _
  | cons v a ih => have := h v; simp only [sumV]; omega
/-- a family with a volume in the midst. -/
theorem mid_room {N : Nat} {A B : List Vol} {u v : Vol} {c c' : Nat → Int} {k g : Int} (hc : ∀ s, c s = cntVs (A ++ u :: B) s) (hr : v.res = u.res)
    (hA : ∀ s, s < N → c s = 1 → occL u.l s = 0 → c' s = 1)
    (hfree : freeC c N - k ≤ freeC c' N) (hexc : excL c N u.l + g ≤ excL c' N v.l) :
    (freeC c N - sumV (claimC c N) (A ++ u :: B)) - k + claimC c N u - max 0 (u.res - (excL c N u.l + g)) ≤ freeC c' N - sumV (claimC c' N) (A ++ v :: B) := by
  have hmem : ∀ w ∈ A ++ B, ∀ s, s < N → c s = 1 → 1 ≤ occL w.l s → c' s = 1 := by
    intro w hw s hs h1 h2
    refine hA s hs h1 ?_
    rw [hc, cntVs_app] at h1
    simp only [cntVs] at h1
    have h0 := (occL_bound u.l s).1
    have hb := cntVs_nonneg B s
    have ha := cntVs_nonneg A s
    rcases List.mem_append.1 hw with hw | hw
    · have := cntVs_mem hw s; omega
    · have := cntVs_mem hw s; omega
  have e1 := claimsC_le (c := c) (c' := c') (N := N) (a := A) fun w hw => hmem w (by simp [hw])
  have e2 := claimsC_le (c := c) (c' := c') (N := N) (a := B) fun w hw => hmem w (by simp [hw])
  rw [sumV_app, sumV_app]
  simp only [sumV]
  have e3 : claimC c' N v ≤ max 0 (u.res - (excL c N u.l + g)) := by unfold claimC; rw [hr]; omega
  omega

/-! ### a write -/
theorem chgs_occ {N n : Nat} {c : Nat → Int} {kp : Nat → Option Int} {fr : List Int} {a : Int} (h : FreshL N c fr) (hu : used kp n ≤ fr.length) (s : Nat) :
    occL (chgsP kp fr a n) s = sumTo (fun i => if kp i = none ∧ fr.getD (used kp i) 0 = (s : Int) then 1 else 0) n := by
  induction n with
  | zero => rfl
  | succ n ih =>
    have hu' : used kp n ≤ fr.length := Nat.le_trans (used_le kp (Nat.le_succ n)) hu
    show occL (chgsP kp fr a n ++ _) s = _
    rw [occL_append, ih hu', sumTo]
    congr 1
    cases hk : kp n with
    | none =>
      have h1 := h.at (i := used kp n) (by have := used_lt kp (n := n + 1) (Nat.lt_succ_self n) hk; omega)
      simp only [Option.isNone_none, if_true, occL, occ1, true_and]
      split <;> split <;> omega
    | some t => simp [occL]
theorem chgs_occ1 {N n : Nat} {c : Nat → Int} {kp : Nat → Option Int} {fr : List Int} {a : Int} (h : FreshL N c fr) (hu : used kp n ≤ fr.length) (s : Nat) :
    occL (chgsP kp fr a n) s ≤ 1 ∧ (1 ≤ occL (chgsP kp fr a n) s → ∃ i, i < n ∧ kp i = none ∧ fr.getD (used kp i) 0 = (s : Int)) := by
  induction n with
  | zero => simp [chgsP, occL]
  | succ n ih =>
    have hu' : used kp n ≤ fr.length := Nat.le_trans (used_le kp (Nat.le_succ n)) hu
    obtain ⟨i1, i2⟩ := ih hu'
    show occL (chgsP kp fr a n ++ _) s ≤ 1 ∧ (1 ≤ occL (chgsP kp fr a n ++ _) s → _)
    rw [occL_append]
    cases hk : kp n with
    | some t =>
      simp only [Option.isNone_some, Bool.false_eq_true, if_false, occL, Int.add_zero]
      exact ⟨i1, fun h => by obtain ⟨i, h1, h2⟩ := i2 h; exact ⟨i, by omega, h2⟩⟩
    | none =>
      have hlt := used_lt kp (n := n + 1) (Nat.lt_succ_self n) hk
      simp only [Option.isNone_none, if_true, occL, Int.add_zero]
      by_cases he : fr.getD (used kp n) 0 = (s : Int)
      · have h0 : ¬ 1 ≤ occL (chgsP kp fr a n) s := fun h1 => by
          obtain ⟨i, hi, hki, e⟩ := i2 h1
          have := used_lt kp hi hki
          have := h.inj (i := used kp i) (j := used kp n) (by omega) (by omega) (by omega)
          omega
        have := (occ1_bound (fr.getD (used kp n) 0) (fr.getD (used kp n) 0 + 1) s).2
        exact ⟨by omega, fun _ => ⟨n, by omega, hk, he⟩⟩
      · have : occ1 (fr.getD (used kp n) 0) (fr.getD (used kp n) 0 + 1) s = 0 := by
          unfold occ1; rw [if_neg (by omega)]
        rw [this]
        exact ⟨by omega, fun h => by obtain ⟨i, h1, h2⟩ := i2 (by omega); exact ⟨i, by omega, h2⟩⟩
theorem chgs_sum {kp : Nat → Option Int} {fr : List Int} {a : Int} : ∀ n : Nat, sumL (chgsP kp fr a n) = used kp n
  | 0 => rfl
  | n + 1 => by
    show sumL (chgsP kp fr a n ++ _) = _
    rw [sumL_append, chgs_sum n, used]
    split <;> simp [sumL]
/-- how often the list lists a slot behind a write. -/
theorem write_key {N n : Nat} {c : Nat → Int} {l m : List Ext} {fr : List Int} {a : Nat} (hl : NF l) (hm : VL m) (hf : FreshL N c fr) (hu : used (keepV c l a) n ≤ fr.length) (ha : a + n ≤ 65536)
    (hfnd : ∀ k : Int, fnd m k = if (a : Int) ≤ k ∧ k < a + n then some (slotP (keepV c l a) fr (k - a).toNat) else fnd l k) :
    ∀ s : Nat, ∃ lost : Int, 0 ≤ lost ∧ lost ≤ occL l s ∧ (c s = 1 → lost = 0) ∧ occL m s = occL l s + occL (chgsP (keepV c l a) fr a n) s - lost := by
  intro s
  have e := occ_patch hl.vl hm ha (P := fun i => some (slotP (keepV c l a) fr i)) hfnd s
  have e0 := occ_patch hl.vl hl.vl ha (P := fun i => fnd l (a + i)) (fun k => by
    split
    · rename_i hk; rw [show (a : Int) + ((k - a).toNat : Int) = k by omega]
    · rfl) s
  rw [chgs_occ hf hu]
  have hpt : ∀ i : Nat, (if fnd l (a + i) = some (s : Int) then (1 : Int) else 0) = (if keepV c l a i = some (s : Int) then 1 else 0) + (if c s = 1 then 0 else if fnd l (a + i) = some (s : Int) then 1 else 0) := by
    intro i
    unfold keepV
    cases hq : fnd l (a + i) with
    | none => simp
    | some t =>
      simp only [Option.some.injEq]
      by_cases ht : t = (s : Int)
      · subst ht
        simp only [Int.toNat_natCast, if_true]
        by_cases h1 : c s = 1
        · simp [h1]
        · simp [h1]
      · rw [if_neg ht]
        have : ¬ (if c t.toNat = 1 then some t else none) = some (s : Int) := by split <;> simp [ht]
        rw [if_neg this]; split <;> rfl
  have hpt2 : ∀ i : Nat, (if some (slotP (keepV c l a) fr i) = some (s : Int) then (1 : Int) else 0) = (if keepV c l a i = some (s : Int) then 1 else 0) + (if keepV c l a i = none ∧ fr.getD (used (keepV c l a) i) 0 = (s : Int) then 1 else 0) := by
    intro i
    unfold slotP
    cases hq : keepV c l a i with
    | none => simp
    | some t => simp
  have e1 := sumTo_congr (n := n) (fun i _ => hpt i)
  have e2 := sumTo_congr (n := n) (fun i _ => hpt2 i)
  rw [sumTo_add] at e1 e2
  rw [e1, e2] at e
  have hnn := sumTo_nonneg (F := fun i => if c s = 1 then (0 : Int) else if fnd l (a + i) = some (s : Int) then 1 else 0) (fun i => by split <;> (try split) <;> omega) n
  refine ⟨_, hnn, ?_, fun h1 => ?_, ?_⟩
  · have hk0 := sumTo_nonneg (F := fun i => if keepV c l a i = some (s : Int) then (1 : Int) else 0) (fun i => by split <;> omega) n
    have hin : sumTo (fun i => if fnd l (a + i) = some (s : Int) then (1 : Int) else 0) n ≤ occL l s := by
      rw [occ_blocks hl.vl]
      obtain ⟨m', hm'⟩ : ∃ m', 65536 = a + n + m' := ⟨65536 - (a + n), by omega⟩
      rw [hm', sumTo_split, sumTo_split]
      have z1 := sumTo_nonneg (F := fun k : Nat => if fnd l (k : Int) = some (s : Int) then (1 : Int) else 0) (fun i => by split <;> omega) a
      have z2 := sumTo_nonneg (F := fun i : Nat => if fnd l ((a + n + i : Nat) : Int) = some (s : Int) then (1 : Int) else 0) (fun i => by split <;> omega) m'
      have z3 : sumTo (fun i : Nat => if fnd l ((a + i : Nat) : Int) = some (s : Int) then (1 : Int) else 0) n = sumTo (fun i : Nat => if fnd l ((a : Int) + i) = some (s : Int) then (1 : Int) else 0) n := sumTo_congr fun i _ => by simp only [Int.natCast_add]
      rw [z3]
      omega
    rw [e1] at hin
    omega
  · rw [show (fun i : Nat => if c s = 1 then (0 : Int) else if fnd l (a + i) = some (s : Int) then 1 else 0) = fun _ => 0 from funext fun i => if_pos h1]
    exact sumTo_zero n
  · rw [e]; omega
/-- what becomes of the counts and of the room. -/
theorem write_room {f : Fam} {N n : Nat} {A B : List Vol} {u : Vol} {m : List Ext} {fr : List Int} {a : Nat} (hN : f.slots = N) (h6 : N ≤ 65536) (hv : f.vols = A ++ u :: B) (hl : NF u.l) (hm : VL m) (hi : inL1 N u.l) (hf : FreshL N f.cnt fr) (hu : used (keepV f.cnt u.l a) n ≤ fr.length) (ha : a + n ≤ 65536)
    (hfnd : ∀ k : Int, fnd m k = if (a : Int) ≤ k ∧ k < a + n then some (slotP (keepV f.cnt u.l a) fr (k - a).toNat) else fnd u.l k)
    (hroom : 0 ≤ f.room) (hcan : (used (keepV f.cnt u.l a) n : Int) ≤ f.claim u + f.room) : 0 ≤ (⟨f.slots, A ++ ⟨u.name, u.n, u.res, m⟩ :: B⟩ : Fam).room := by
  have key := write_key hl hm hf hu ha hfnd
  have hcnt : ∀ s, f.cnt s = cntVs A s + occL u.l s + cntVs B s := fun s => by
    unfold Fam.cnt; rw [hv, cntVs_app]; simp only [cntVs]; omega
  have hcnt' : ∀ s, (⟨f.slots, A ++ ⟨u.name, u.n, u.res, m⟩ :: B⟩ : Fam).cnt s = f.cnt s - occL u.l s + occL m s := fun s => by
    rw [hcnt]; unfold Fam.cnt; simp only; rw [cntVs_app]; simp only [cntVs]; omega
  have hg : (⟨f.slots, A ++ ⟨u.name, u.n, u.res, m⟩ :: B⟩ : Fam).room = freeC (⟨f.slots, A ++ ⟨u.name, u.n, u.res, m⟩ :: B⟩ : Fam).cnt N - sumV (claimC (⟨f.slots, A ++ ⟨u.name, u.n, u.res, m⟩ :: B⟩ : Fam).cnt N) (A ++ ⟨u.name, u.n, u.res, m⟩ :: B) := by rw [room_eq, hN]
  rw [hg]
  clear hg
  generalize (⟨f.slots, A ++ ⟨u.name, u.n, u.res, m⟩ :: B⟩ : Fam).cnt = c' at hcnt' ⊢
  have hd1 := fun s => chgs_occ1 (a := (a : Int)) hf hu s
  have hd2 : ∀ s, 1 ≤ occL (chgsP (keepV f.cnt u.l a) fr a n) s → f.cnt s = 0 := fun s h1 => by
    obtain ⟨i, hi, hk, e⟩ := (hd1 s).2 h1
    have := hf.at (i := used (keepV f.cnt u.l a) i) (by have := used_lt _ hi hk; omega)
    rw [e] at this
    simpa using this.2.2
  have hsum : sumTo (occL (chgsP (keepV f.cnt u.l a) fr a n)) N = used (keepV f.cnt u.l a) n := by
    rw [← sumL_occ (chgs_in hf hu), chgs_sum]
  generalize hD : occL (chgsP (keepV f.cnt u.l a) fr a n) = D at *
  have hD0 : ∀ s, 0 ≤ D s := fun s => by rw [← hD]; exact (occL_bound _ s).1
  have hcA := fun s => cntVs_nonneg A s
  have hcB := fun s => cntVs_nonneg B s
  have hcu := fun s => (occL_bound u.l s).1
  have hfree : freeC f.cnt N - used (keepV f.cnt u.l a) n ≤ freeC c' N := by
    have : sumTo (fun s => if f.cnt s = 0 then (1 : Int) else 0) N ≤ sumTo (fun s => (if c' s = 0 then (1 : Int) else 0) + D s) N := sumTo_le fun s _ => by
      obtain ⟨lost, l1, l2, l3, l4⟩ := key s
      have := hcnt s; have := hcnt' s; have := hcA s; have := hcB s; have := hcu s; have := hD0 s; have := (hd1 s).1
      split <;> split <;> omega
    rw [sumTo_add, hsum] at this
    unfold freeC
    omega
  have hexc : excL f.cnt N u.l + used (keepV f.cnt u.l a) n ≤ excL c' N m := by
    have : sumTo (fun s => (if f.cnt s = 1 then occL u.l s else 0) + D s) N ≤ sumTo (fun s => if c' s = 1 then occL m s else 0) N := sumTo_le fun s _ => by
      obtain ⟨lost, l1, l2, l3, l4⟩ := key s
      have := hcnt s; have := hcnt' s; have := hcA s; have := hcB s; have := hcu s; have := hD0 s; have := (hd1 s).1; have := hd2 s; have := (occL_bound m s).1
      split <;> split <;> omega
    rw [sumTo_add, hsum] at this
    unfold excL
    exact this
  have hm2 := mid_room (N := N) (A := A) (B := B) (u := u) (v := ⟨u.name, u.n, u.res, m⟩) (c := f.cnt) (c' := c') (fun s => by unfold Fam.cnt; rw [hv]) rfl
    (fun s hs h1 h2 => by
      obtain ⟨lost, l1, l2, l3, l4⟩ := key s
      have := hcnt s; have := hcnt' s; have := hD0 s; have := hd2 s; have := (hd1 s).1
      omega) hfree hexc
  rw [room_eq] at hroom hcan
  rw [hN, hv] at hroom hcan
  have hcl : f.claim u = claimC f.cnt N u := by rw [← hN]; rfl
  rw [hcl] at hcan
  have he : claimC f.cnt N u = max 0 (u.res - excL f.cnt N u.l) := rfl
  omega

/-! ### the other changes -/
theorem less_room {f : Fam} {A B : List Vol} {u : Vol} {m : List Ext} {lost : Nat → Int} (hv : f.vols = A ++ u :: B) (hl : ∀ s, 0 ≤ lost s ∧ occL m s + lost s = occL u.l s) : f.room ≤ (⟨f.slots, A ++ ⟨u.name, u.n, u.res, m⟩ :: B⟩ : Fam).room := by
  have hcnt : ∀ s, f.cnt s = cntVs A s + occL u.l s + cntVs B s := fun s => by
    unfold Fam.cnt; rw [hv, cntVs_app]; simp only [cntVs]; omega
  have hcnt' : ∀ s, (⟨f.slots, A ++ ⟨u.name, u.n, u.res, m⟩ :: B⟩ : Fam).cnt s = f.cnt s - lost s := fun s => by
    have := (hl s).2
    rw [hcnt]; unfold Fam.cnt; simp only; rw [cntVs_app]; simp only [cntVs]; omega
  rw [room_eq, room_eq]
  simp only
  generalize (⟨f.slots, A ++ ⟨u.name, u.n, u.res, m⟩ :: B⟩ : Fam).cnt = c' at hcnt' ⊢
  have hcA := fun s => cntVs_nonneg A s
  have hcB := fun s => cntVs_nonneg B s
  have hcm := fun s => (occL_bound m s).1
  obtain ⟨g, hg⟩ : ∃ g, sumTo (fun s => if f.cnt s = 1 then lost s else 0) f.slots = g := ⟨_, rfl⟩
  have hfree : freeC f.cnt f.slots - (-g) ≤ freeC c' f.slots := by
    have : sumTo (fun s => (if f.cnt s = 0 then (1 : Int) else 0) + (if f.cnt s = 1 then lost s else 0)) f.slots ≤ sumTo (fun s => if c' s = 0 then (1 : Int) else 0) f.slots := sumTo_le fun s _ => by
      have := hcnt s; have := hcnt' s; have := hcA s; have := hcB s; have := hcm s; have := hl s
      split <;> split <;> split <;> omega
    rw [sumTo_add, hg] at this
    unfold freeC
    omega
  have hexc : excL f.cnt f.slots u.l + (-g) ≤ excL c' f.slots m := by
    have : sumTo (fun s => if f.cnt s = 1 then occL u.l s else 0) f.slots ≤ sumTo (fun s => (if c' s = 1 then occL m s else 0) + (if f.cnt s = 1 then lost s else 0)) f.slots := sumTo_le fun s _ => by
      have := hcnt s; have := hcnt' s; have := hcA s; have := hcB s; have := hcm s; have := hl s
      split <;> split <;> omega
    rw [sumTo_add, hg] at this
    unfold excL
    omega
  have hm2 := mid_room (N := f.slots) (A := A) (B := B) (u := u) (v := ⟨u.name, u.n, u.res, m⟩) (c := f.cnt) (c' := c') (fun s => by unfold Fam.cnt; rw [hv]) rfl
    (fun s hs h1 h2 => by have := hcnt' s; have := hl s; have := hcm s; omega) hfree hexc
  have hg0 : 0 ≤ g := by
    rw [← hg]; exact sumTo_nonneg (fun s => by have := (hl s).1; split <;> omega) _
  rw [hv]
  have he : claimC f.cnt f.slots u = max 0 (u.res - excL f.cnt f.slots u.l) := rfl
  omega
theorem unmap_room {f g : Fam} (h : f.WF) {nm : List UInt8} {a n : Int} (e : f.unmap nm a n = .ok g) : f.room ≤ g.room := by
  unfold Fam.unmap at e
  split at e
  · cases e
  · rename_i v hg
    split at e
    · rename_i hc
      injection e with e; subst e
      obtain ⟨A, B, hv, hn, -⟩ := split_get hg
      have hm := (getV_some hg).1
      obtain ⟨a1, a2, a3, a4, a5, a6, a7, a8⟩ := h.vols v hm
      have := less_room (m := cutL v.l a n) (lost := occL (inL v.l a n)) hv fun s => ⟨(occL_bound _ _).1, occL_cut a6 hc.1 hc.2.1 (by omega) s⟩
      have hs := h.sorted
      unfold Fam.put
      rw [hv] at hs ⊢
      rw [insV_mid (v := ⟨v.name, v.n, v.res, cutL v.l a n⟩) hs rfl]
      exact this
    · cases e
theorem cntVs_nil (A B : List Vol) (u : Vol) (s : Nat) : cntVs (A ++ ⟨u.name, u.n, u.res, []⟩ :: B) s = cntVs (A ++ B) s := by
  rw [cntVs_app, cntVs_app]; simp only [cntVs, occL]; omega
theorem delete_room {f g : Fam} (h : f.WF) {nm : List UInt8} (e : f.delete nm = .ok g) : f.room ≤ g.room := by
  unfold Fam.delete at e
  split at e
  · cases e
  · rename_i v hg
    injection e with e; subst e
    obtain ⟨A, B, hv, hn, -⟩ := split_get hg
    have h1 := less_room (m := []) (lost := occL v.l) hv fun s => ⟨(occL_bound _ _).1, by simp [occL]⟩
    have hs := h.sorted
    rw [hv] at hs
    have hd := delV_mid hs
    rw [hn] at hd
    rw [hv, hd]
    refine Int.le_trans h1 ?_
    rw [room_eq, room_eq]
    have hc : (⟨f.slots, A ++ ⟨v.name, v.n, v.res, []⟩ :: B⟩ : Fam).cnt = (⟨f.slots, A ++ B⟩ : Fam).cnt := funext fun s => cntVs_nil A B v s
    rw [hc]
    simp only
    rw [sumV_app, sumV_app]
    simp only [sumV]
    have := claimC_nonneg (⟨f.slots, A ++ B⟩ : Fam).cnt f.slots ⟨v.name, v.n, v.res, []⟩
    omega
theorem sumV_ins (g : Vol → Int) {vs : List Vol} {v : Vol} (h : getV vs v.name = none) : sumV g (insV vs v) = sumV g vs + g v := by
  induction vs with
  | nil => simp [insV, sumV]
  | cons w r ih =>
    have hn := getV_none.1 h
    have i1 := ih (getV_none.2 fun u hu => hn u (by simp [hu]))
    unfold insV
    split
    · simp only [sumV, i1]; omega
    · rw [if_neg (hn w (by simp))]
      simp only [sumV]; omega
theorem excL_nil (c : Nat → Int) (N : Nat) : excL c N [] = 0 := by
  unfold excL
  rw [show (fun s => if c s = 1 then occL [] s else 0) = fun _ => (0 : Int) from funext fun s => by split <;> rfl]
  exact sumTo_zero N
theorem excL_nonneg (c : Nat → Int) (N : Nat) (l : List Ext) : 0 ≤ excL c N l := sumTo_nonneg (fun s => by have := (occL_bound l s).1; split <;> omega) N
theorem create_room {f g : Fam} {nm : List UInt8} {n r : Int} (e : f.create nm n r = .ok g) : g.room = f.room - r := by
  unfold Fam.create at e
  split at e
  · rename_i hc
    split at e
    · rename_i hv
      injection e with e; subst e
      have h1 := (vacant_ok hv).1
      have hc' : (f.put ⟨nm, n, r, []⟩).cnt = f.cnt := funext fun s => by
        show cntVs (insV f.vols ⟨nm, n, r, []⟩) s = _
        rw [(insV_new (v := ⟨nm, n, r, []⟩) h1).2]; simp [occL, Fam.cnt]
      rw [room_eq, room_eq, hc']
      show freeC f.cnt f.slots - sumV (claimC f.cnt f.slots) (insV f.vols ⟨nm, n, r, []⟩) = _
      rw [sumV_ins _ (v := ⟨nm, n, r, []⟩) h1]
      have : claimC f.cnt f.slots ⟨nm, n, r, []⟩ = r := by unfold claimC; simp only; rw [excL_nil]; omega
      omega
    · cases e
  · cases e
theorem clone_room {f g : Fam} (h : f.WF) {nm other : List UInt8} {u : Vol} (hg : getV f.vols nm = some u) (e : f.clone nm other = .ok g) : f.room - (u.res - f.claim u) ≤ g.room := by
  unfold Fam.clone at e
  rw [hg] at e
  simp only at e
  split at e
  · split at e
    · rename_i hv
      injection e with e; subst e
      have h1 := (vacant_ok hv).1
      obtain ⟨A, B, hvs, hn, -⟩ := split_get hg
      have hr := (h.vols u (getV_some hg).1).2.2.2.1
      have hcnt : ∀ s, f.cnt s = cntVs A s + occL u.l s + cntVs B s := fun s => by
        unfold Fam.cnt; rw [hvs, cntVs_app]; simp only [cntVs]; omega
      have hcnt' : ∀ s, (f.put ⟨other, u.n, 0, u.l⟩).cnt s = f.cnt s + occL u.l s := fun s => (insV_new (v := ⟨other, u.n, 0, u.l⟩) h1).2 s
      rw [room_eq, room_eq]
      show _ ≤ freeC (f.put ⟨other, u.n, 0, u.l⟩).cnt f.slots - sumV (claimC (f.put ⟨other, u.n, 0, u.l⟩).cnt f.slots) (insV f.vols ⟨other, u.n, 0, u.l⟩)
      rw [sumV_ins _ (v := ⟨other, u.n, 0, u.l⟩) h1]
      generalize (f.put ⟨other, u.n, 0, u.l⟩).cnt = c' at hcnt' ⊢
      have hcA := fun s => cntVs_nonneg A s
      have hcB := fun s => cntVs_nonneg B s
      have hcu := fun s => (occL_bound u.l s).1
      have hfree : freeC f.cnt f.slots ≤ freeC c' f.slots := sumTo_le fun s _ => by
        have := hcnt s; have := hcnt' s; have := hcA s; have := hcB s; have := hcu s
        split <;> split <;> omega
      have hw : claimC c' f.slots ⟨other, u.n, 0, u.l⟩ = 0 := by
        have := excL_nonneg c' f.slots u.l
        unfold claimC; simp only; omega
      have hu : claimC c' f.slots u ≤ u.res := by
        have := excL_nonneg c' f.slots u.l
        unfold claimC; omega
      have hmem : ∀ w ∈ A ++ B, ∀ s, s < f.slots → f.cnt s = 1 → 1 ≤ occL w.l s → c' s = 1 := by
        intro w hw s hs h1 h2
        have := hcnt s; have := hcnt' s; have := hcA s; have := hcB s; have := hcu s
        rcases List.mem_append.1 hw with hw | hw
        · have := cntVs_mem hw s; omega
        · have := cntVs_mem hw s; omega
      have e1 := claimsC_le (c := f.cnt) (c' := c') (N := f.slots) (a := A) fun w hw => hmem w (by simp [hw])
      have e2 := claimsC_le (c := f.cnt) (c' := c') (N := f.slots) (a := B) fun w hw => hmem w (by simp [hw])
      have hcl : f.claim u = claimC f.cnt f.slots u := rfl
      rw [hvs, sumV_app, sumV_app]
      simp only [sumV]
      omega
    · cases e
  · cases e
end Go.Proofs.YtbfdnfkflnajlaaGreat
