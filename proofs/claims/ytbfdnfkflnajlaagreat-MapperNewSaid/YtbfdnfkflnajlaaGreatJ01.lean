/-
  Plain lists, trees and numbers: the mathematics beneath the mapper; no program in sight.
-/
set_option linter.unusedVariables false
set_option linter.unusedSimpArgs false
/-! Plain lists, trees and numbers: the mathematics beneath the mapper; no program in sight. -/
namespace Go.Proofs.YtbfdnfkflnajlaaGreat
/-- api.Extent: Len blocks of a volume from At on, at the slots from Slot on. -/
structure Ext where
  at_ : Int
  len : Int
  slot : Int
deriving DecidableEq, Inhabited

namespace Ext
/-- a valid extent. -/
def One (x : Ext) : Prop := 0 ≤ x.at_ ∧ 0 ≤ x.slot ∧ 1 ≤ x.len ∧ x.at_ + x.len ≤ 65536 ∧ x.slot + x.len ≤ 65536
instance (x : Ext) : Decidable x.One := by unfold Ext.One; infer_instance
/-- two extents could be one. -/
def fol (a b : Ext) : Bool := decide (a.at_ + a.len = b.at_) && decide (a.slot + a.len = b.slot)
/-- an extent ends ahead of another one. -/
def sep (a b : Ext) : Prop := a.at_ + a.len ≤ b.at_
/-- an extent ends ahead of another one, and could not be one with it. -/
def nsep (a b : Ext) : Prop := a.at_ + a.len ≤ b.at_ ∧ a.fol b = false
end Ext
open Ext hiding One

theorem fol_iff {a b : Ext} : a.fol b = true ↔ a.at_ + a.len = b.at_ ∧ a.slot + a.len = b.slot := by
  simp [Ext.fol]
theorem nfol_iff {a b : Ext} : a.fol b = false ↔ ¬ (a.at_ + a.len = b.at_ ∧ a.slot + a.len = b.slot) := by
  rw [← fol_iff]; simp

/-- a valid list. -/
def VL (l : List Ext) : Prop := (∀ x ∈ l, x.One) ∧ l.Pairwise sep
/-- a normal form. -/
def NF (l : List Ext) : Prop := (∀ x ∈ l, x.One) ∧ l.Pairwise nsep

theorem NF.vl {l : List Ext} (h : NF l) : VL l := ⟨h.1, h.2.imp fun h => h.1⟩
theorem NF.nil : NF [] := ⟨by simp, List.Pairwise.nil⟩
theorem VL.nil : VL [] := ⟨by simp, List.Pairwise.nil⟩
theorem NF.tail {x : Ext} {l : List Ext} (h : NF (x :: l)) : NF l := ⟨fun y hy => h.1 y (by simp [hy]), (List.pairwise_cons.1 h.2).2⟩
theorem VL.tail {x : Ext} {l : List Ext} (h : VL (x :: l)) : VL l := ⟨fun y hy => h.1 y (by simp [hy]), (List.pairwise_cons.1 h.2).2⟩

/-- 'push': appends an extent to a list; a follower is made one with the last. -/
def pushL (l : List Ext) (x : Ext) : List Ext :=
  match l.getLast? with
  | none => [x]
  | some z => if z.fol x then l.dropLast ++ [⟨z.at_, z.len + x.len, z.slot⟩] else l ++ [x]

theorem pushL_nil (x : Ext) : pushL [] x = [x] := rfl
theorem pushL_snoc (l : List Ext) (z x : Ext) : pushL (l ++ [z]) x = if z.fol x then l ++ [⟨z.at_, z.len + x.len, z.slot⟩] else l ++ [z, x] := by
  simp [pushL]

/-- 'Join' of a valid list. -/
def joinL (l : List Ext) : List Ext := l.foldl pushL []

theorem foldl_push_NF (B : List Ext) : ∀ C, NF (C ++ B) → B.foldl pushL C = C ++ B := by
  induction B with
  | nil => intro C _; simp
  | cons b B ih =>
    intro C h
    have hp : pushL C b = C ++ [b] := by
      rcases List.eq_nil_or_concat C with rfl | ⟨C', z, rfl⟩
      · rfl
      · rw [List.concat_eq_append, pushL_snoc]
        have : z.nsep b := by
          have := (List.pairwise_append.1 h.2).2.2 z (by simp) b (by simp)
          exact this
        rw [this.2]; simp
    rw [List.foldl_cons, hp, ih (C ++ [b]) (by simpa using h)]
    simp
theorem joinL_NF {l : List Ext} (h : NF l) : joinL l = l := by
  have := foldl_push_NF l [] (by simpa using h)
  simpa [joinL] using this

/-- the part of an extent between two blocks. -/
def partE (x : Ext) (lo hi : Int) : Option Ext :=
  if max x.at_ lo < min (x.at_ + x.len) hi then some ⟨max x.at_ lo, min (x.at_ + x.len) hi - max x.at_ lo, x.slot + max x.at_ lo - x.at_⟩ else none
def partsL (l : List Ext) (lo hi : Int) : List Ext := l.filterMap fun x => partE x lo hi

theorem partE_some {x y : Ext} {lo hi : Int} (h : partE x lo hi = some y) : lo ≤ y.at_ ∧ y.at_ + y.len ≤ hi ∧ 1 ≤ y.len ∧ x.at_ ≤ y.at_ ∧ y.at_ + y.len ≤ x.at_ + x.len ∧ y.slot - y.at_ = x.slot - x.at_ ∧
    (y.at_ = x.at_ ∨ y.at_ = lo) ∧ (y.at_ + y.len = x.at_ + x.len ∨ y.at_ + y.len = hi) := by
  unfold partE at h
  split at h
  · injection h with h; subst h; simp only; omega
  · cases h
theorem partE_one {x y : Ext} {lo hi : Int} (h : partE x lo hi = some y) (hx : x.One) : y.One := by
  have := partE_some h
  unfold Ext.One at *; omega
theorem parts_one {l : List Ext} (h : ∀ x ∈ l, x.One) (lo hi : Int) : ∀ x ∈ partsL l lo hi, x.One := by
  intro y hy
  obtain ⟨x, hx, hp⟩ := List.mem_filterMap.1 hy
  exact partE_one hp (h x hx)
theorem parts_NF {l : List Ext} (h : NF l) (lo hi : Int) : NF (partsL l lo hi) := by
  refine ⟨parts_one h.1 lo hi, ?_⟩
  refine List.Pairwise.filterMap _ (fun a b hab c hc d hd => ?_) h.2
  have h1 := partE_some hc
  have h2 := partE_some hd
  unfold nsep at *
  rw [nfol_iff] at *
  omega
theorem parts_VL {l : List Ext} (h : VL l) (lo hi : Int) : VL (partsL l lo hi) := by
  refine ⟨parts_one h.1 lo hi, ?_⟩
  refine List.Pairwise.filterMap _ (fun a b hab c hc d hd => ?_) h.2
  have h1 := partE_some hc
  have h2 := partE_some hd
  unfold sep at *
  omega
theorem parts_range {l : List Ext} {lo hi : Int} {y : Ext} (h : y ∈ partsL l lo hi) : lo ≤ y.at_ ∧ y.at_ + y.len ≤ hi ∧ 1 ≤ y.len := by
  obtain ⟨x, hx, hp⟩ := List.mem_filterMap.1 h
  have := partE_some hp
  omega

/-- the slot of a block. -/
def fnd : List Ext → Int → Option Int
  | [], _ => none
  | x :: l, k => if x.at_ ≤ k ∧ k < x.at_ + x.len then some (x.slot + k - x.at_) else fnd l k

/-- a list with an extent in place of what was mapped there. -/
def putL (l : List Ext) (x : Ext) : List Ext := joinL (partsL l 0 x.at_ ++ [x] ++ partsL l (x.at_ + x.len) 65536)
/-- a list without a range. -/
def cutL (l : List Ext) (at_ n : Int) : List Ext := joinL (partsL l 0 at_ ++ partsL l (at_ + n) 65536)
/-- the part in a range. -/
def inL (l : List Ext) (at_ n : Int) : List Ext := joinL (partsL l at_ (at_ + n))
theorem inL_eq {l : List Ext} (h : NF l) (at_ n : Int) : inL l at_ n = partsL l at_ (at_ + n) := joinL_NF (parts_NF h _ _)

/-- two extents made one, if they could be. -/
def mrgL (A : List Ext) (x : Ext) : List Ext × Ext :=
  match A.getLast? with
  | none => (A, x)
  | some y => if y.fol x then (A.dropLast, ⟨y.at_, y.len + x.len, y.slot⟩) else (A, x)
def mrgR (x : Ext) (B : List Ext) : Ext × List Ext :=
  match B with
  | [] => (x, B)
  | y :: B' => if x.fol y then (⟨x.at_, x.len + y.len, x.slot⟩, B') else (x, B)

theorem join_mid {A B : List Ext} {x : Ext} (hA : NF A) (hB : NF B) (hx : x.One) (h1 : ∀ a ∈ A, a.sep x) (h2 : ∀ b ∈ B, x.sep b) :
    joinL (A ++ [x] ++ B) = (mrgL A x).1 ++ (mrgR (mrgL A x).2 B).1 :: (mrgR (mrgL A x).2 B).2 ∧ NF (joinL (A ++ [x] ++ B)) := by
  have e1 : joinL (A ++ [x] ++ B) = B.foldl pushL (pushL A x) := by
    unfold joinL
    rw [List.foldl_append, List.foldl_append]
    rw [foldl_push_NF A [] (by simpa using hA)]
    rfl
  have e2 : pushL A x = (mrgL A x).1 ++ [(mrgL A x).2] := by
    unfold pushL mrgL
    cases h : A.getLast? with
    | none => have : A = [] := List.getLast?_eq_none_iff.1 h; subst this; rfl
    | some z => simp only; split <;> simp
  have e3 : ∀ C z, NF (C ++ [z]) → (∀ b ∈ B, z.sep b) → B.foldl pushL (C ++ [z]) = C ++ (mrgR z B).1 :: (mrgR z B).2 ∧ NF (B.foldl pushL (C ++ [z])) := by
    intro C z hC hz
    cases B with
    | nil => exact ⟨by simp [mrgR], by simpa using hC⟩
    | cons b B =>
      have hb := List.pairwise_cons.1 hB.2
      rw [List.foldl_cons, pushL_snoc]
      unfold mrgR
      simp only
      by_cases hf : z.fol b = true
      · rw [if_pos hf, if_pos hf]
        have hfi := fol_iff.1 hf
        have : NF (C ++ [⟨z.at_, z.len + b.len, z.slot⟩] ++ B) := by
          have hC2 := List.pairwise_append.1 hC.2
          have hbo := hB.1 b (by simp)
          have hzo := hC.1 z (by simp)
          refine ⟨?_, ?_⟩
          · intro y hy
            simp only [List.append_assoc, List.mem_append, List.mem_cons, List.not_mem_nil, or_false] at hy
            rcases hy with hy | hy | hy
            · exact hC.1 y (by simp [hy])
            · subst hy; unfold Ext.One at *; simp only; omega
            · exact hB.1 y (by simp [hy])
          · refine List.pairwise_append.2 ⟨List.pairwise_append.2 ⟨hC2.1, by simp, ?_⟩, hb.2, ?_⟩
            · intro a ha c hc
              simp only [List.mem_singleton] at hc; subst hc
              have := hC2.2.2 a ha z (by simp)
              unfold nsep at *; rw [nfol_iff] at *; exact this
            · intro a ha c hc
              have hbc := hb.1 c hc
              have hco := hB.1 c (by simp [hc])
              simp only [List.mem_append, List.mem_singleton] at ha
              rcases ha with ha | ha
              · have := hC2.2.2 a ha z (by simp)
                have hao := hC.1 a (by simp [ha])
                unfold nsep Ext.One at *; rw [nfol_iff] at *; omega
              · subst ha
                unfold nsep Ext.One at *; rw [nfol_iff] at *; simp only; omega
        rw [foldl_push_NF B _ this]; exact ⟨by simp, this⟩
      · rw [if_neg hf, if_neg hf]
        have : NF (C ++ [z, b] ++ B) := by
          have hC2 := List.pairwise_append.1 hC.2
          have hzo := hC.1 z (by simp)
          have hzb := hz b (by simp)
          refine ⟨?_, ?_⟩
          · intro y hy
            simp only [List.append_assoc, List.mem_append, List.mem_cons, List.cons_append, List.nil_append] at hy
            rcases hy with hy | hy | hy | hy
            · exact hC.1 y (by simp [hy])
            · exact hC.1 y (by simp [hy])
            · exact hB.1 y (by simp [hy])
            · exact hB.1 y (by simp [hy])
          · have : C ++ [z, b] ++ B = (C ++ [z]) ++ (b :: B) := by simp
            rw [this]
            refine List.pairwise_append.2 ⟨hC.2, hB.2, ?_⟩
            intro a ha c hc
            simp only [List.mem_append, List.mem_singleton] at ha
            have hbo := hB.1 b (by simp)
            have key : a = z ∨ a.at_ + a.len ≤ z.at_ := by
              rcases ha with ha | ha
              · exact .inr (hC2.2.2 a ha z (by simp)).1
              · exact .inl ha
            have key2 : c = b ∨ b.at_ + b.len ≤ c.at_ := by
              rcases List.mem_cons.1 hc with hc | hc
              · exact .inl hc
              · exact .inr (hb.1 c hc).1
            simp only [Bool.not_eq_true] at hf
            unfold nsep sep Ext.One at *; rw [nfol_iff] at *
            rcases key with rfl | key <;> rcases key2 with rfl | key2 <;> omega
        rw [foldl_push_NF B _ this]; exact ⟨by simp, this⟩
  have hN : NF ((mrgL A x).1 ++ [(mrgL A x).2]) ∧ ∀ b ∈ B, (mrgL A x).2.sep b := by
    unfold mrgL
    rcases List.eq_nil_or_concat A with rfl | ⟨A', z, rfl⟩
    · exact ⟨⟨by simpa using hx, by simp⟩, h2⟩
    · rw [List.concat_eq_append] at *
      have hA2 := List.pairwise_append.1 hA.2
      have hzo := hA.1 z (by simp)
      have hzx := h1 z (by simp)
      simp only [List.getLast?_append, List.getLast?_singleton, Option.some_or, List.dropLast_concat]
      by_cases hf : z.fol x = true
      · rw [if_pos hf]
        have hfi := fol_iff.1 hf
        refine ⟨⟨?_, ?_⟩, ?_⟩
        · intro y hy
          simp only [List.mem_append, List.mem_singleton] at hy
          rcases hy with hy | hy
          · exact hA.1 y (by simp [hy])
          · subst hy; unfold Ext.One at *; simp only; omega
        · refine List.pairwise_append.2 ⟨hA2.1, by simp, ?_⟩
          intro a ha c hc
          simp only [List.mem_singleton] at hc; subst hc
          have := hA2.2.2 a ha z (by simp)
          unfold nsep at *; rw [nfol_iff] at *; exact this
        · intro b hb
          have := h2 b hb
          unfold sep at *; simp only; omega
      · rw [if_neg hf]
        simp only [Bool.not_eq_true] at hf
        refine ⟨⟨?_, ?_⟩, h2⟩
        · intro y hy
          rcases List.mem_append.1 hy with hy | hy
          · exact hA.1 y hy
          · simp only [List.mem_singleton] at hy; subst hy; exact hx
        · refine List.pairwise_append.2 ⟨hA.2, by simp, ?_⟩
          intro a ha c hc
          simp only [List.mem_singleton] at hc; subst hc
          have h3 := h1 a ha
          rcases List.mem_append.1 ha with ha | ha
          · have := hA2.2.2 a ha z (by simp)
            have hao := hA.1 a (by simp [ha])
            unfold nsep sep Ext.One at *; rw [nfol_iff] at *; omega
          · simp only [List.mem_singleton] at ha; subst ha; exact ⟨h3, hf⟩
  rw [e1, e2]
  exact e3 _ _ hN.1 hN.2
open Ext hiding One

/-- a tree of extents. -/
inductive Tr where
  | nil
  | node (l : Tr) (x : Ext) (r : Tr)
deriving Inhabited

namespace Tr
def deep : Tr → Int
  | nil => 0
  | node l _ r => 1 + max l.deep r.deep
def cnt : Tr → Int
  | nil => 0
  | node l _ r => 1 + l.cnt + r.cnt
def blocks : Tr → Int
  | nil => 0
  | node l x r => x.len + l.blocks + r.blocks
def toL : Tr → List Ext
  | nil => []
  | node l x r => l.toL ++ x :: r.toL
def nodes : Tr → Nat
  | nil => 0
  | node l _ r => l.nodes + r.nodes + 1
def left : Tr → Tr
  | nil => nil
  | node l _ _ => l
def right : Tr → Tr
  | nil => nil
  | node _ _ r => r
def val : Tr → Ext
  | nil => default
  | node _ x _ => x

theorem deep_nonneg : ∀ t : Tr, 0 ≤ t.deep
  | nil => by simp [deep]
  | node l _ r => by have := deep_nonneg l; have := deep_nonneg r; simp [deep]; omega

/-- 'balance'. -/
def balance (l : Tr) (x : Ext) (r : Tr) : Tr :=
  if l.deep > r.deep + 1 then
    if l.left.deep ≥ l.right.deep then node l.left l.val (node l.right x r)
    else node (node l.left l.val l.right.left) l.right.val (node l.right.right x r)
  else if r.deep > l.deep + 1 then
    if r.right.deep ≥ r.left.deep then node (node l x r.left) r.val r.right
    else node (node l x r.left.left) r.left.val (node r.left.right r.val r.right)
  else node l x r

theorem toL_balance (l : Tr) (x : Ext) (r : Tr) : (balance l x r).toL = l.toL ++ x :: r.toL := by
  unfold balance
  have hl := deep_nonneg l
  have hr := deep_nonneg r
  split
  · rename_i h1
    cases l with
    | nil => simp [deep] at h1; omega
    | node ll lx lr =>
      split
      · simp [left, right, val, toL]
      · rename_i h2
        cases lr with
        | nil => have := deep_nonneg ll; simp [left, right, deep] at h2; omega
        | node a b c => simp [left, right, val, toL]
  · split
    · rename_i h1
      cases r with
      | nil => simp [deep] at h1; omega
      | node rl rx rr =>
        split
        · simp [left, right, val, toL]
        · rename_i h2
          cases rl with
          | nil => have := deep_nonneg rr; simp [left, right, deep] at h2; omega
          | node a b c => simp [left, right, val, toL]
    · simp [toL]

/-- 'join'. -/
def join : Tr → Ext → Tr → Tr
  | nil, x, nil => node nil x nil
  | node ll lx lr, x, nil => if (node ll lx lr).deep > 1 then balance ll lx (join lr x nil) else node (node ll lx lr) x nil
  | nil, x, node rl rx rr => if (node rl rx rr).deep > 1 then balance (join nil x rl) rx rr else node nil x (node rl rx rr)
  | node ll lx lr, x, node rl rx rr =>
    if (node ll lx lr).deep > (node rl rx rr).deep + 1 then balance ll lx (join lr x (node rl rx rr))
    else if (node rl rx rr).deep > (node ll lx lr).deep + 1 then balance (join (node ll lx lr) x rl) rx rr
    else node (node ll lx lr) x (node rl rx rr)
termination_by l _ r => l.nodes + r.nodes
decreasing_by all_goals simp [nodes]; omega

theorem join_eq (l : Tr) (x : Ext) (r : Tr) : join l x r =
    if l.deep > r.deep + 1 then balance l.left l.val (join l.right x r)
    else if r.deep > l.deep + 1 then balance (join l x r.left) r.val r.right
    else node l x r := by
  cases l with
  | nil =>
    cases r with
    | nil => rw [join]; simp [deep]
    | node rl rx rr =>
      have := deep_nonneg (node rl rx rr)
      rw [join]
      simp only [left, right, val]
      rw [if_neg (show ¬ nil.deep > (node rl rx rr).deep + 1 by simp only [show nil.deep = 0 from rfl]; omega)]
      simp only [show nil.deep = 0 from rfl, Int.zero_add]
  | node ll lx lr =>
    cases r with
    | nil =>
      have := deep_nonneg (node ll lx lr)
      rw [join]
      simp only [left, right, val]
      rw [if_neg (show ¬ nil.deep > (node ll lx lr).deep + 1 by simp only [show nil.deep = 0 from rfl]; omega)]
      simp only [show nil.deep = 0 from rfl, Int.zero_add]
    | node rl rx rr => rw [join]; rfl

theorem toL_join : ∀ (n : Nat) (l : Tr) (x : Ext) (r : Tr), l.nodes + r.nodes ≤ n → (join l x r).toL = l.toL ++ x :: r.toL := by
  intro n
  induction n with
  | zero =>
    intro l x r h
    cases l <;> cases r <;> simp [nodes] at h ⊢
    rw [join]; rfl
  | succ n ih =>
    intro l x r h
    have h1 := deep_nonneg l
    have h2 := deep_nonneg r
    rw [join_eq]
    split
    · rename_i hd
      cases l with
      | nil => simp only [show nil.deep = 0 from rfl] at hd; omega
      | node ll lx lr =>
        simp only [nodes] at h
        simp only [left, right, val, toL_balance]
        rw [ih lr x r (by omega)]
        simp [toL]
    · split
      · rename_i hd
        cases r with
        | nil => simp only [show nil.deep = 0 from rfl] at hd; omega
        | node rl rx rr =>
          simp only [nodes] at h
          simp only [left, right, val, toL_balance]
          rw [ih l x rl (by omega)]
          simp [toL]
      · rfl
theorem join_toL (l : Tr) (x : Ext) (r : Tr) : (join l x r).toL = l.toL ++ x :: r.toL := toL_join _ l x r (Nat.le_refl _)

/-- 'first' of a tree that is not empty. -/
def first : Tr → Ext × Tr
  | nil => default
  | node nil x r => (x, r)
  | node (node a b c) x r => ((first (node a b c)).1, join (first (node a b c)).2 x r)
def last : Tr → Ext × Tr
  | nil => default
  | node l x nil => (x, l)
  | node l x (node a b c) => ((last (node a b c)).1, join l x (last (node a b c)).2)

theorem first_toL : ∀ t : Tr, t ≠ nil → t.toL = t.first.1 :: t.first.2.toL
  | nil, h => absurd rfl h
  | node nil x r, _ => by simp [first, toL]
  | node (node a b c) x r, _ => by
    have ih := first_toL (node a b c) (by simp)
    rw [first, toL, ih, join_toL]; rfl
theorem last_toL : ∀ t : Tr, t ≠ nil → t.toL = t.last.2.toL ++ [t.last.1]
  | nil, h => absurd rfl h
  | node l x nil, _ => by simp [last, toL]
  | node l x (node a b c), _ => by
    have ih := last_toL (node a b c) (by simp)
    rw [last, toL, ih, join_toL]; simp

/-- 'concat'. -/
def concat (l r : Tr) : Tr :=
  match r with
  | nil => l
  | node a b c => join l (first (node a b c)).1 (first (node a b c)).2
theorem concat_toL (l r : Tr) : (concat l r).toL = l.toL ++ r.toL := by
  cases r with
  | nil => simp [concat, toL]
  | node a b c =>
    simp only [concat, join_toL]
    rw [first_toL (node a b c) (by simp)]

/-- 'split'. -/
def split (at_ : Int) : Tr → Tr × Tr
  | nil => (nil, nil)
  | node l x r =>
    if at_ ≤ x.at_ then ((split at_ l).1, join (split at_ l).2 x r)
    else if at_ ≥ x.at_ + x.len then (join l x (split at_ r).1, (split at_ r).2)
    else (join l ⟨x.at_, at_ - x.at_, x.slot⟩ nil, join nil ⟨at_, x.len - (at_ - x.at_), x.slot + (at_ - x.at_)⟩ r)
end Tr
open Tr

/-- what lies ahead of a block, and from it on. -/
def loL (l : List Ext) (at_ : Int) : List Ext := l.filterMap fun x => if at_ ≤ x.at_ then none else if at_ ≥ x.at_ + x.len then some x else some ⟨x.at_, at_ - x.at_, x.slot⟩
def hiL (l : List Ext) (at_ : Int) : List Ext := l.filterMap fun x => if at_ ≤ x.at_ then some x else if at_ ≥ x.at_ + x.len then none else some ⟨at_, x.len - (at_ - x.at_), x.slot + (at_ - x.at_)⟩

theorem loL_none {l : List Ext} {at_ : Int} (h : ∀ x ∈ l, at_ ≤ x.at_) : loL l at_ = [] := by
  unfold loL; rw [List.filterMap_eq_nil_iff]; intro x hx; simp [h x hx]
theorem hiL_all {l : List Ext} {at_ : Int} (h : ∀ x ∈ l, at_ ≤ x.at_) : hiL l at_ = l := by
  unfold hiL
  induction l with
  | nil => rfl
  | cons a l ih => rw [List.filterMap_cons, if_pos (h a (by simp)), ih (fun x hx => h x (by simp [hx]))]
theorem loL_all {l : List Ext} {at_ : Int} (h : ∀ x ∈ l, at_ ≥ x.at_ + x.len ∧ 1 ≤ x.len) : loL l at_ = l := by
  unfold loL
  induction l with
  | nil => rfl
  | cons a l ih =>
    have := h a (by simp)
    rw [List.filterMap_cons, if_neg (by omega), if_pos this.1, ih (fun x hx => h x (by simp [hx]))]
theorem hiL_none {l : List Ext} {at_ : Int} (h : ∀ x ∈ l, at_ ≥ x.at_ + x.len ∧ 1 ≤ x.len) : hiL l at_ = [] := by
  unfold hiL; rw [List.filterMap_eq_nil_iff]; intro x hx; have := h x hx; rw [if_neg (by omega), if_pos this.1]
theorem loL_append (a b : List Ext) (at_ : Int) : loL (a ++ b) at_ = loL a at_ ++ loL b at_ := by simp [loL]
theorem hiL_append (a b : List Ext) (at_ : Int) : hiL (a ++ b) at_ = hiL a at_ ++ hiL b at_ := by simp [hiL]

theorem VL_mid {a b : List Ext} {x : Ext} (h : VL (a ++ x :: b)) : VL a ∧ VL b ∧ x.One ∧ (∀ y ∈ a, y.sep x) ∧ (∀ y ∈ b, x.sep y) := by
  obtain ⟨h1, h2⟩ := h
  have h3 := List.pairwise_append.1 h2
  have h4 := List.pairwise_cons.1 h3.2.1
  exact ⟨⟨fun y hy => h1 y (by simp [hy]), h3.1⟩, ⟨fun y hy => h1 y (by simp [hy]), h4.2⟩, h1 x (by simp), fun y hy => h3.2.2 y hy x (by simp), h4.1⟩

theorem split_toL (at_ : Int) : ∀ t : Tr, VL t.toL → (t.split at_).1.toL = loL t.toL at_ ∧ (t.split at_).2.toL = hiL t.toL at_
  | nil, _ => by simp [Tr.split, toL, loL, hiL]
  | node l x r, h => by
    obtain ⟨hl, hr, hx, h1, h2⟩ := VL_mid h
    have ihl := split_toL at_ l hl
    have ihr := split_toL at_ r hr
    unfold Ext.One at hx
    rw [toL, loL_append, hiL_append, ← List.singleton_append, loL_append, hiL_append]
    rw [Tr.split]
    split
    · rename_i hc
      have hr' : ∀ y ∈ r.toL, at_ ≤ y.at_ := fun y hy => by have := h2 y hy; unfold sep at this; omega
      rw [loL_none hr', hiL_all hr']
      simp only [join_toL, ihl.1, ihl.2]
      simp [loL, hiL, hc]
    · rename_i hc
      split
      · rename_i hd
        have hl' : ∀ y ∈ l.toL, at_ ≥ y.at_ + y.len ∧ 1 ≤ y.len := fun y hy => by
          have := h1 y hy; have hy1 := hl.1 y hy; unfold sep at this; unfold Ext.One at hy1; omega
        rw [loL_all hl', hiL_none hl']
        simp only [join_toL, ihr.1, ihr.2]
        simp [loL, hiL, hc, hd]
      · rename_i hd
        have hl' : ∀ y ∈ l.toL, at_ ≥ y.at_ + y.len ∧ 1 ≤ y.len := fun y hy => by
          have := h1 y hy; have hy1 := hl.1 y hy; unfold sep at this; unfold Ext.One at hy1; omega
        have hr' : ∀ y ∈ r.toL, at_ ≤ y.at_ := fun y hy => by have := h2 y hy; unfold sep at this; omega
        rw [loL_all hl', hiL_none hl', loL_none hr', hiL_all hr']
        simp only [join_toL]
        simp [loL, hiL, hc, hd, toL]
open Ext hiding One
open Tr

theorem ext_mk {x : Ext} {a b c : Int} (h1 : x.at_ = a) (h2 : x.len = b) (h3 : x.slot = c) : x = ⟨a, b, c⟩ := by
  cases x; simp_all
theorem ext_mk' {a b c a' b' c' : Int} (h1 : a = a') (h2 : b = b') (h3 : c = c') : (⟨a, b, c⟩ : Ext) = ⟨a', b', c'⟩ := by
  subst h1 h2 h3; rfl
theorem filterMap_congr' {α β : Type} {f g : α → Option β} {l : List α} (h : ∀ x ∈ l, f x = g x) : l.filterMap f = l.filterMap g := by
  induction l with
  | nil => rfl
  | cons a l ih => rw [List.filterMap_cons, List.filterMap_cons, h a (by simp), ih (fun x hx => h x (by simp [hx]))]
theorem loL_parts {l : List Ext} (h : ∀ x ∈ l, x.One) (at_ : Int) : loL l at_ = partsL l 0 at_ := by
  unfold loL partsL
  refine filterMap_congr' (fun x hx => ?_)
  have := h x hx
  unfold Ext.One at this
  unfold partE
  have e0 : max x.at_ 0 = x.at_ := by omega
  rw [e0]
  by_cases h1 : at_ ≤ x.at_
  · rw [if_pos h1, if_neg (by omega)]
  · rw [if_neg h1]
    by_cases h2 : at_ ≥ x.at_ + x.len
    · rw [if_pos h2, if_pos (by omega)]
      have : min (x.at_ + x.len) at_ = x.at_ + x.len := by omega
      rw [this]
      exact congrArg some (ext_mk rfl (by omega) (by omega))
    · rw [if_neg h2, if_pos (by omega)]
      have : min (x.at_ + x.len) at_ = at_ := by omega
      rw [this]
      exact congrArg some (ext_mk' (by omega) (by omega) (by omega))
theorem hiL_parts {l : List Ext} (h : ∀ x ∈ l, x.One) (at_ : Int) : hiL l at_ = partsL l at_ 65536 := by
  unfold hiL partsL
  refine filterMap_congr' (fun x hx => ?_)
  have := h x hx
  unfold Ext.One at this
  unfold partE
  have e0 : min (x.at_ + x.len) 65536 = x.at_ + x.len := by omega
  rw [e0]
  by_cases h1 : at_ ≤ x.at_
  · rw [if_pos h1, if_pos (by omega)]
    have : max x.at_ at_ = x.at_ := by omega
    rw [this]
    exact congrArg some (ext_mk rfl (by omega) (by omega))
  · rw [if_neg h1]
    have e1 : max x.at_ at_ = at_ := by omega
    rw [e1]
    by_cases h2 : at_ ≥ x.at_ + x.len
    · rw [if_pos h2, if_neg (by omega)]
    · rw [if_neg h2, if_pos (by omega)]
      exact congrArg some (ext_mk' (by omega) (by omega) (by omega))
theorem partE_partE {x : Ext} {a b c d : Int} (hx : 1 ≤ x.len) : (partE x a b).bind (fun y => partE y c d) = partE x (max a c) (min b d) := by
  unfold partE
  by_cases h1 : max x.at_ a < min (x.at_ + x.len) b
  · rw [if_pos h1]
    simp only [Option.bind_some]
    have e1 : max (max x.at_ a) c = max x.at_ (max a c) := Int.max_assoc ..
    have e2 : max x.at_ a + (min (x.at_ + x.len) b - max x.at_ a) = min (x.at_ + x.len) b := by omega
    have e3 : min (min (x.at_ + x.len) b) d = min (x.at_ + x.len) (min b d) := Int.min_assoc ..
    rw [e1, e2, e3]
    by_cases h2 : max x.at_ (max a c) < min (x.at_ + x.len) (min b d)
    · rw [if_pos h2, if_pos h2]
      exact congrArg some (ext_mk' (by omega) (by omega) (by omega))
    · rw [if_neg h2, if_neg h2]
  · rw [if_neg h1, if_neg (by omega)]; rfl
theorem parts_parts {l : List Ext} (h : ∀ x ∈ l, x.One) (a b c d : Int) : partsL (partsL l a b) c d = partsL l (max a c) (min b d) := by
  unfold partsL
  rw [List.filterMap_filterMap]
  refine filterMap_congr' (fun x hx => ?_)
  have := h x hx
  exact partE_partE this.2.2.1

/-- an extent put behind a tree: made one with the tree's last, if they could be. -/
def mrgLT (a : Tr) (x : Ext) : Tr × Ext :=
  match a with
  | nil => (nil, x)
  | node l y r => if (node l y r).last.1.fol x then ((node l y r).last.2, ⟨(node l y r).last.1.at_, (node l y r).last.1.len + x.len, (node l y r).last.1.slot⟩) else (node l y r, x)
def mrgRT (x : Ext) (b : Tr) : Ext × Tr :=
  match b with
  | nil => (x, nil)
  | node l y r => if x.fol (node l y r).first.1 then (⟨x.at_, x.len + (node l y r).first.1.len, x.slot⟩, (node l y r).first.2) else (x, node l y r)
/-- 'Put'. -/
def putT (t : Tr) (x : Ext) : Tr :=
  join (mrgLT (t.split x.at_).1 x).1 (mrgRT (mrgLT (t.split x.at_).1 x).2 ((t.split x.at_).2.split (x.at_ + x.len)).2).1 (mrgRT (mrgLT (t.split x.at_).1 x).2 ((t.split x.at_).2.split (x.at_ + x.len)).2).2
/-- what was mapped there. -/
def midT (t : Tr) (at_ n : Int) : Tr := ((t.split at_).2.split (at_ + n)).1
/-- 'Cut'. -/
def cutT (t : Tr) (at_ n : Int) : Tr := if n = 0 then t else concat (t.split at_).1 ((t.split at_).2.split (at_ + n)).2

theorem split_parts {t : Tr} (h : VL t.toL) (at_ : Int) : (t.split at_).1.toL = partsL t.toL 0 at_ ∧ (t.split at_).2.toL = partsL t.toL at_ 65536 := by
  have := split_toL at_ t h
  rw [loL_parts h.1, hiL_parts h.1] at this
  exact this
theorem split2_parts {t : Tr} (h : VL t.toL) {at_ n : Int} (h0 : 0 ≤ at_) (h1 : 0 ≤ n) (h2 : at_ + n ≤ 65536) :
    (midT t at_ n).toL = partsL t.toL at_ (at_ + n) ∧ ((t.split at_).2.split (at_ + n)).2.toL = partsL t.toL (at_ + n) 65536 := by
  have hr := (split_parts h at_).2
  have hv : VL (t.split at_).2.toL := by rw [hr]; exact parts_VL h _ _
  have := split_parts hv (at_ + n)
  rw [hr, parts_parts h.1, parts_parts h.1] at this
  have e1 : max at_ 0 = at_ := by omega
  have e2 : min 65536 (at_ + n) = at_ + n := by omega
  have e3 : max at_ (at_ + n) = at_ + n := by omega
  rw [e1, e2, e3, Int.min_self] at this
  exact this

theorem toL_nil_iff {t : Tr} : t.toL = [] ↔ t = nil := by
  cases t <;> simp [toL]

theorem mrgLT_toL (a : Tr) (x : Ext) : (mrgLT a x).1.toL = (mrgL a.toL x).1 ∧ (mrgLT a x).2 = (mrgL a.toL x).2 := by
  cases a with
  | nil => simp [mrgLT, mrgL, toL]
  | node l y r =>
    have hl := last_toL (node l y r) (by simp)
    rw [hl]
    unfold mrgL mrgLT
    simp only [List.getLast?_append, List.getLast?_singleton, Option.some_or, List.dropLast_concat]
    split
    · exact ⟨rfl, rfl⟩
    · exact ⟨hl, rfl⟩
theorem mrgRT_toL (x : Ext) (b : Tr) : (mrgRT x b).1 = (mrgR x b.toL).1 ∧ (mrgRT x b).2.toL = (mrgR x b.toL).2 := by
  cases b with
  | nil => simp [mrgRT, mrgR, toL]
  | node l y r =>
    have hf := first_toL (node l y r) (by simp)
    rw [hf]
    unfold mrgR mrgRT
    simp only
    split
    · exact ⟨rfl, rfl⟩
    · exact ⟨rfl, hf⟩

theorem putT_toL {t : Tr} {x : Ext} (h : NF t.toL) (hx : x.One) : (putT t x).toL = putL t.toL x := by
  have hx' := hx
  unfold Ext.One at hx'
  have ha := (split_parts h.vl x.at_).1
  have hb := (split2_parts h.vl (at_ := x.at_) (n := x.len) (by omega) (by omega) (by omega)).2
  have hAN := parts_NF h 0 x.at_
  have hBN := parts_NF h (x.at_ + x.len) 65536
  unfold putL
  rw [(join_mid hAN hBN hx (fun a ha => by have := parts_range ha; unfold sep; omega) (fun b hb => by have := parts_range hb; unfold sep; omega)).1]
  unfold putT
  rw [← ha, ← hb, join_toL, (mrgLT_toL _ _).1, (mrgRT_toL _ _).1, (mrgRT_toL _ _).2, (mrgLT_toL _ _).2]

theorem putL_NF {l : List Ext} {x : Ext} (h : NF l) (hx : x.One) : NF (putL l x) :=
  (join_mid (parts_NF h _ _) (parts_NF h _ _) hx (fun a ha => by have := parts_range ha; unfold sep; omega) (fun b hb => by have := parts_range hb; unfold sep; omega)).2
theorem append_NF {A B : List Ext} (hA : NF A) (hB : NF B) (hs : ∀ a ∈ A, ∀ b ∈ B, a.at_ + a.len < b.at_) : NF (A ++ B) := by
  refine ⟨fun y hy => (List.mem_append.1 hy).elim (hA.1 y) (hB.1 y), List.pairwise_append.2 ⟨hA.2, hB.2, fun a ha b hb => ?_⟩⟩
  have := hs a ha b hb
  unfold nsep
  rw [nfol_iff]
  omega
theorem partE_low {x : Ext} {a b : Int} (hx : x.One) (h0 : a ≤ x.at_) (h : x.at_ + x.len ≤ b) : partE x a b = some x := by
  unfold Ext.One at hx
  unfold partE
  rw [if_pos (by omega)]
  exact congrArg some (ext_mk (by omega) (by omega) (by omega)).symm
theorem partE_none {x : Ext} {a b : Int} (h : x.at_ + x.len ≤ a ∨ b ≤ x.at_) : partE x a b = none := by
  unfold partE
  rw [if_neg (by omega)]
theorem parts_all {l : List Ext} {a b : Int} (h : ∀ x ∈ l, x.One ∧ a ≤ x.at_ ∧ x.at_ + x.len ≤ b) : partsL l a b = l := by
  induction l with
  | nil => rfl
  | cons x l ih =>
    have := h x (by simp)
    unfold partsL at *
    rw [List.filterMap_cons, partE_low this.1 this.2.1 this.2.2, ih (fun y hy => h y (by simp [hy]))]
theorem parts_none {l : List Ext} {a b : Int} (h : ∀ x ∈ l, x.at_ + x.len ≤ a ∨ b ≤ x.at_) : partsL l a b = [] := by
  unfold partsL; rw [List.filterMap_eq_nil_iff]; intro x hx; exact partE_none (h x hx)
theorem parts_cons (x : Ext) (l : List Ext) (a b : Int) : partsL (x :: l) a b = (partE x a b).toList ++ partsL l a b := by
  unfold partsL; rw [List.filterMap_cons]; cases partE x a b <;> rfl
theorem parts_fold (a : Int) : ∀ (l C : List Ext), NF (C ++ l) → (partsL l a 65536).foldl pushL (C ++ partsL l 0 a) = C ++ l := by
  intro l
  induction l with
  | nil => intro C _; simp [partsL]
  | cons x l ih =>
    intro C h
    obtain ⟨_, hl, hx, _, h2⟩ := VL_mid h.vl
    have hx' := hx
    unfold Ext.One at hx'
    rcases Int.le_total (x.at_ + x.len) a with hc | hc
    · rw [parts_cons, parts_cons, partE_none (.inl hc), partE_low hx (by omega) hc]
      have := ih (C ++ [x]) (by simpa using h)
      simpa using this
    · have hb : ∀ y ∈ l, y.One ∧ a ≤ y.at_ ∧ y.at_ + y.len ≤ 65536 := fun y hy => by
        have h3 := hl.1 y hy
        have h4 := h2 y hy
        have h5 := h3
        unfold Ext.One at h5
        unfold sep at h4
        exact ⟨h3, by omega, by omega⟩
      rw [parts_cons, parts_cons, parts_all hb, parts_none (l := l) (fun y hy => .inr (hb y hy).2.1)]
      rcases Int.le_total a x.at_ with hd | hd
      · rw [partE_low hx hd (by omega), partE_none (.inr hd)]
        have := foldl_push_NF (x :: l) C h
        simpa using this
      · by_cases he : x.at_ = a
        · rw [partE_low (a := a) (b := 65536) hx (by omega) (by omega), partE_none (a := 0) (b := a) (.inr (by omega))]
          have := foldl_push_NF (x :: l) C h
          simpa using this
        · by_cases hf : x.at_ + x.len = a
          · rw [partE_low (a := 0) (b := a) hx (by omega) (by omega), partE_none (a := a) (b := 65536) (.inl (by omega))]
            have := foldl_push_NF l (C ++ [x]) (by simpa using h)
            simp only [Option.toList_some, Option.toList_none, List.append_nil, List.nil_append]
            rw [this]; simp
          · have e1 : partE x a 65536 = some ⟨a, x.at_ + x.len - a, x.slot + a - x.at_⟩ := by
              unfold partE; rw [if_pos (by omega)]; exact congrArg some (ext_mk' (by omega) (by omega) (by omega))
            have e2 : partE x 0 a = some ⟨x.at_, a - x.at_, x.slot⟩ := by
              unfold partE; rw [if_pos (by omega)]; exact congrArg some (ext_mk' (by omega) (by omega) (by omega))
            rw [e1, e2]
            simp only [Option.toList_some, List.append_nil, List.singleton_append, List.foldl_cons]
            rw [pushL_snoc, if_pos (fol_iff.2 ⟨by simp only; omega, by simp only; omega⟩)]
            have e3 : (⟨x.at_, a - x.at_ + (x.at_ + x.len - a), x.slot⟩ : Ext) = x := (ext_mk rfl (by omega) rfl).symm
            simp only [e3]
            have := foldl_push_NF l (C ++ [x]) (by simpa using h)
            simpa using this
theorem parts_split {l : List Ext} (h : NF l) (at_ : Int) : joinL (partsL l 0 at_ ++ partsL l at_ 65536) = l := by
  unfold joinL
  rw [List.foldl_append, foldl_push_NF _ [] (by simpa using parts_NF h 0 at_)]
  simpa using parts_fold at_ l [] (by simpa using h)
theorem cutT_toL {t : Tr} (h : NF t.toL) {at_ n : Int} (h0 : 0 ≤ at_) (h1 : 0 ≤ n) (h2 : at_ + n ≤ 65536) : (cutT t at_ n).toL = cutL t.toL at_ n ∧ NF (cutL t.toL at_ n) := by
  unfold cutL cutT
  by_cases hn : n = 0
  · subst hn
    rw [if_pos rfl, Int.add_zero, parts_split h]
    exact ⟨rfl, h⟩
  · rw [if_neg hn, concat_toL, (split_parts h.vl at_).1, (split2_parts h.vl h0 h1 h2).2]
    have hN := append_NF (parts_NF h 0 at_) (parts_NF h (at_ + n) 65536) (fun a ha b hb => by have := parts_range ha; have := parts_range hb; omega)
    rw [joinL_NF hN]
    exact ⟨rfl, hN⟩

/-! ### the slot of a block -/
theorem fnd_append (A B : List Ext) (k : Int) : fnd (A ++ B) k = (fnd A k).or (fnd B k) := by
  induction A with
  | nil => simp [fnd]
  | cons a A ih => simp only [List.cons_append, fnd]; split <;> simp [ih]
theorem fnd_none {A : List Ext} {k : Int} (h : ∀ x ∈ A, ¬ (x.at_ ≤ k ∧ k < x.at_ + x.len)) : fnd A k = none := by
  induction A with
  | nil => rfl
  | cons a A ih => rw [fnd, if_neg (h a (by simp)), ih (fun x hx => h x (by simp [hx]))]
theorem fnd_some {A : List Ext} {k s : Int} (h : fnd A k = some s) : ∃ x ∈ A, x.at_ ≤ k ∧ k < x.at_ + x.len ∧ s = x.slot + k - x.at_ := by
  induction A with
  | nil => cases h
  | cons a A ih =>
    rw [fnd] at h
    split at h
    · rename_i hc; injection h with h; exact ⟨a, by simp, hc.1, hc.2, h.symm⟩
    · obtain ⟨x, hx, r⟩ := ih h; exact ⟨x, by simp [hx], r⟩
theorem fnd_mem {A : List Ext} (h : VL A) {x : Ext} (hx : x ∈ A) {k : Int} (h1 : x.at_ ≤ k) (h2 : k < x.at_ + x.len) : fnd A k = some (x.slot + k - x.at_) := by
  induction A with
  | nil => cases hx
  | cons a A ih =>
    have ho := h.1
    have hp := List.pairwise_cons.1 h.2
    rcases List.mem_cons.1 hx with rfl | hx'
    · rw [fnd, if_pos ⟨h1, h2⟩]
    · have := hp.1 x hx'
      unfold sep at this
      rw [fnd, if_neg (by omega)]
      exact ih h.tail hx'
theorem fnd_push (C : List Ext) (x : Ext) (k : Int) (hC : ∀ z ∈ C, 1 ≤ z.len) (hx : 1 ≤ x.len) : fnd (pushL C x) k = (fnd C k).or (fnd [x] k) := by
  rcases List.eq_nil_or_concat C with rfl | ⟨C', z, rfl⟩
  · simp [pushL_nil, fnd]
  · rw [List.concat_eq_append, pushL_snoc]
    have hz := hC z (by simp)
    split
    · rename_i hf
      have := fol_iff.1 hf
      rw [fnd_append, fnd_append]
      cases h : fnd C' k with
      | some s => simp
      | none =>
        simp only [Option.none_or, fnd]
        by_cases h1 : z.at_ ≤ k ∧ k < z.at_ + z.len
        · rw [if_pos h1, if_pos (by omega)]; rfl
        · rw [if_neg h1]
          by_cases h2 : x.at_ ≤ k ∧ k < x.at_ + x.len
          · rw [if_pos h2, if_pos (by omega)]; simp; omega
          · rw [if_neg h2, if_neg (by omega)]; rfl
    · rw [show C' ++ [z, x] = (C' ++ [z]) ++ [x] by simp, fnd_append]
theorem fnd_fold (l : List Ext) (k : Int) : ∀ C : List Ext, (∀ z ∈ C, 1 ≤ z.len) → (∀ z ∈ l, 1 ≤ z.len) → fnd (l.foldl pushL C) k = (fnd C k).or (fnd l k) := by
  induction l with
  | nil => intro C _ _; simp [fnd]
  | cons x l ih =>
    intro C hC hl
    have hx := hl x (by simp)
    have hp : ∀ z ∈ pushL C x, 1 ≤ z.len := by
      intro z hz
      rcases List.eq_nil_or_concat C with rfl | ⟨C', y, rfl⟩
      · simp [pushL_nil] at hz; subst hz; exact hx
      · rw [List.concat_eq_append, pushL_snoc] at hz
        have hy := hC y (by simp)
        split at hz
        · rcases List.mem_append.1 hz with hz | hz
          · exact hC z (by simp [hz])
          · simp at hz; subst hz; simp only; omega
        · rcases List.mem_append.1 hz with hz | hz
          · exact hC z (by simp [hz])
          · simp at hz; rcases hz with rfl | rfl
            · exact hy
            · exact hx
    rw [List.foldl_cons, ih _ hp (fun z hz => hl z (by simp [hz])), fnd_push C x k hC hx]
    rw [show x :: l = [x] ++ l from rfl, fnd_append, Option.or_assoc]
theorem fnd_join (l : List Ext) (k : Int) (h : ∀ z ∈ l, 1 ≤ z.len) : fnd (joinL l) k = fnd l k := by
  have := fnd_fold l k [] (by simp) h
  simpa [joinL, fnd] using this
theorem fnd_parts {l : List Ext} (h : ∀ z ∈ l, 1 ≤ z.len) (a b k : Int) : fnd (partsL l a b) k = if a ≤ k ∧ k < b then fnd l k else none := by
  induction l with
  | nil => simp [partsL, fnd]
  | cons x l ih =>
    have ih' := ih (fun z hz => h z (by simp [hz]))
    have hx := h x (by simp)
    rw [parts_cons, fnd_append, ih', fnd]
    unfold partE
    split
    · simp only [Option.toList_some, fnd]
      by_cases hk : a ≤ k ∧ k < b
      · simp only [if_pos hk]
        by_cases h1 : x.at_ ≤ k ∧ k < x.at_ + x.len
        · rw [if_pos h1, if_pos (by omega)]; simp; omega
        · rw [if_neg h1, if_neg (by omega)]; rfl
      · simp only [if_neg hk]
        rw [if_neg (by omega)]; rfl
    · simp only [Option.toList_none, fnd, Option.none_or]
      by_cases hk : a ≤ k ∧ k < b
      · simp only [if_pos hk]; rw [if_neg (by omega)]
      · simp only [if_neg hk]
theorem One.len {x : Ext} (h : x.One) : 1 ≤ x.len := h.2.2.1
theorem fnd_lt {l : List Ext} (h : ∀ x ∈ l, x.One) {k s : Int} (hf : fnd l k = some s) : 0 ≤ k ∧ k < 65536 ∧ 0 ≤ s ∧ s < 65536 := by
  obtain ⟨x, hx, h1, h2, h3⟩ := fnd_some hf
  have := h x hx
  unfold Ext.One at this
  omega
theorem fnd_put {l : List Ext} {x : Ext} (h : NF l) (hx : x.One) (k : Int) : fnd (putL l x) k = if x.at_ ≤ k ∧ k < x.at_ + x.len then some (x.slot + k - x.at_) else fnd l k := by
  have hl : ∀ z ∈ l, 1 ≤ z.len := fun z hz => One.len (h.1 z hz)
  unfold putL
  rw [fnd_join, fnd_append, fnd_append, fnd_parts hl, fnd_parts hl]
  · have hx' := hx
    unfold Ext.One at hx'
    simp only [fnd]
    by_cases h1 : x.at_ ≤ k ∧ k < x.at_ + x.len
    · rw [if_pos h1, if_neg (by omega), if_pos h1]; rfl
    · rw [if_neg h1, if_neg h1]
      by_cases h2 : 0 ≤ k ∧ k < x.at_
      · rw [if_pos h2, if_neg (by omega)]; simp
      · rw [if_neg h2]
        by_cases h3 : x.at_ + x.len ≤ k ∧ k < 65536
        · rw [if_pos h3]; simp
        · rw [if_neg h3]
          cases hf : fnd l k with
          | none => rfl
          | some s => have := fnd_lt h.1 hf; omega
  · intro z hz
    simp only [List.mem_append, List.mem_singleton] at hz
    rcases hz with (hz | hz) | hz
    · exact (parts_range hz).2.2
    · subst hz; exact One.len hx
    · exact (parts_range hz).2.2
theorem fnd_cut {l : List Ext} (h : NF l) {a n : Int} (h0 : 0 ≤ a) (h1 : 0 ≤ n) (k : Int) : fnd (cutL l a n) k = if a ≤ k ∧ k < a + n then none else fnd l k := by
  have hl : ∀ z ∈ l, 1 ≤ z.len := fun z hz => One.len (h.1 z hz)
  unfold cutL
  rw [fnd_join, fnd_append, fnd_parts hl, fnd_parts hl]
  · by_cases h1 : a ≤ k ∧ k < a + n
    · rw [if_pos h1, if_neg (by omega), if_neg (by omega)]; rfl
    · rw [if_neg h1]
      by_cases h2 : 0 ≤ k ∧ k < a
      · rw [if_pos h2, if_neg (by omega)]; simp
      · rw [if_neg h2]
        by_cases h3 : a + n ≤ k ∧ k < 65536
        · rw [if_pos h3]; simp
        · rw [if_neg h3]
          cases hf : fnd l k with
          | none => rfl
          | some s => have := fnd_lt h.1 hf; omega
  · intro z hz
    rcases List.mem_append.1 hz with hz | hz
    · exact (parts_range hz).2.2
    · exact (parts_range hz).2.2
/-- two normal forms that map alike are one. -/
theorem NF.ext : ∀ {l m : List Ext}, NF l → NF m → (∀ k, fnd l k = fnd m k) → l = m := by
  intro l
  induction l with
  | nil =>
    intro m _ hm h
    cases m with
    | nil => rfl
    | cons y m =>
      have := h y.at_
      have ho := hm.1 y (by simp)
      unfold Ext.One at ho
      rw [fnd, fnd, if_pos (by omega)] at this
      cases this
  | cons x l ih =>
    intro m hl hm h
    have hxo := hl.1 x (by simp)
    have hx' := hxo
    unfold Ext.One at hx'
    cases m with
    | nil =>
      have := h x.at_
      rw [fnd, fnd, if_pos (by omega)] at this
      cases this
    | cons y m =>
      have hy := hm.1 y (by simp)
      have hy' := hy
      unfold Ext.One at hy'
      have hlp := (List.pairwise_cons.1 hl.2).1
      have hmp := (List.pairwise_cons.1 hm.2).1
      have below : ∀ {z : Ext} {n : List Ext}, (∀ a ∈ n, z.nsep a) → ∀ k, k < z.at_ + z.len → fnd n k = none := by
        intro z n hn k hk
        refine fnd_none (fun a ha => ?_)
        have := (hn a ha).1
        omega
      have e1 : x.at_ = y.at_ := by
        rcases Int.lt_trichotomy x.at_ y.at_ with hlt | he | hlt
        · have := h x.at_
          rw [fnd, if_pos (by omega), fnd, if_neg (by omega), below hmp _ (by omega)] at this
          cases this
        · exact he
        · have := h y.at_
          rw [fnd, if_neg (by omega), fnd, if_pos (by omega), below hlp _ (by omega)] at this
          cases this
      have e2 : x.slot = y.slot := by
        have := h x.at_
        rw [fnd, if_pos (by omega), fnd, if_pos (by omega)] at this
        injection this with this
        omega
      have e3 : x.len = y.len := by
        rcases Int.lt_trichotomy x.len y.len with hlt | he | hlt
        · have := h (x.at_ + x.len)
          rw [fnd, if_neg (by omega), fnd, if_pos (by omega)] at this
          obtain ⟨z, hz, h1, h2, h3⟩ := fnd_some this
          have h4 := hlp z hz
          have h5 := h4.2
          rw [nfol_iff] at h5
          have := h4.1
          exact absurd ⟨by omega, by omega⟩ h5
        · exact he
        · have := h (y.at_ + y.len)
          rw [fnd, if_pos (by omega), fnd, if_neg (by omega)] at this
          obtain ⟨z, hz, h1, h2, h3⟩ := fnd_some this.symm
          have h4 := hmp z hz
          have h5 := h4.2
          rw [nfol_iff] at h5
          have := h4.1
          exact absurd ⟨by omega, by omega⟩ h5
      have e4 : x = y := by cases x; cases y; simp_all
      subst e4
      have e5 : l = m := by
        refine ih hl.tail hm.tail (fun k => ?_)
        have := h k
        rw [fnd, fnd] at this
        by_cases hk : x.at_ ≤ k ∧ k < x.at_ + x.len
        · rw [below hlp k (by omega), below hmp k (by omega)]
        · rwa [if_neg hk, if_neg hk] at this
      rw [e5]
open Ext hiding One
open Tr

/-! ### sizes of trees -/
def sumL : List Ext → Int
  | [] => 0
  | x :: l => x.len + sumL l
theorem sumL_append (a b : List Ext) : sumL (a ++ b) = sumL a + sumL b := by
  induction a with
  | nil => simp [sumL]
  | cons x a ih => simp only [List.cons_append, sumL, ih]; omega
theorem cnt_toL : ∀ t : Tr, t.cnt = t.toL.length
  | .nil => rfl
  | .node l x r => by simp only [Tr.cnt, toL, cnt_toL l, cnt_toL r, List.length_append, List.length_cons]; omega
theorem blocks_toL : ∀ t : Tr, t.blocks = sumL t.toL
  | .nil => rfl
  | .node l x r => by simp only [Tr.blocks, toL, blocks_toL l, blocks_toL r, sumL_append, sumL]; omega
theorem deep_cnt : ∀ t : Tr, t.deep ≤ t.cnt
  | .nil => by simp [Tr.deep, Tr.cnt]
  | .node l x r => by
    have := deep_cnt l; have := deep_cnt r; have := cnt_toL l; have := cnt_toL r
    simp only [Tr.deep, Tr.cnt]; omega
theorem sumL_nonneg {l : List Ext} (h : ∀ x ∈ l, 0 ≤ x.len) : 0 ≤ sumL l := by
  induction l with
  | nil => simp [sumL]
  | cons x l ih => have := h x (by simp); have := ih (fun y hy => h y (by simp [hy])); simp only [sumL]; omega

/-- sizes that fit. -/
def fitL (l : List Ext) : Prop := (l.length : Int) ≤ 1000000 ∧ sumL l ≤ 1000000 ∧ ∀ x ∈ l, 0 ≤ x.len
theorem fitL.bounds {t : Tr} (h : fitL t.toL) : 0 ≤ t.deep ∧ t.deep ≤ 1000000 ∧ 0 ≤ t.cnt ∧ t.cnt ≤ 1000000 ∧ 0 ≤ t.blocks ∧ t.blocks ≤ 1000000 := by
  have h1 := deep_cnt t
  have h2 := cnt_toL t
  have h3 := blocks_toL t
  have h4 := deep_nonneg t
  have h5 := sumL_nonneg h.2.2
  have := h.1
  have := h.2.1
  omega
theorem fitL.sub {a b c : List Ext} (h : fitL (a ++ b ++ c)) : fitL b := by
  have h1 := h.1
  have h2 := h.2.1
  have h3 := h.2.2
  simp only [List.length_append, sumL_append] at h1 h2
  have ha := sumL_nonneg (l := a) (fun x hx => h3 x (by simp [hx]))
  have hc := sumL_nonneg (l := c) (fun x hx => h3 x (by simp [hx]))
  exact ⟨by omega, by omega, fun x hx => h3 x (by simp [hx])⟩
theorem fitL.left {a b : List Ext} (h : fitL (a ++ b)) : fitL a := fitL.sub (a := []) (c := b) (by simpa using h)
theorem fitL.right {a b : List Ext} (h : fitL (a ++ b)) : fitL b := fitL.sub (a := a) (c := []) (by simpa using h)
theorem fitL.mid {a b : List Ext} {x : Ext} (h : fitL (a ++ x :: b)) : fitL a ∧ fitL b ∧ 0 ≤ x.len ∧ x.len ≤ 1000000 := by
  refine ⟨h.left, fitL.right (a := a ++ [x]) (by simpa using h), h.2.2 x (by simp), ?_⟩
  have := fitL.sub (a := a) (b := [x]) (c := b) (by simpa using h)
  have := this.2.1
  simp [sumL] at this
  exact this
theorem VL_sum : ∀ {l : List Ext} {a b : Int}, VL l → (∀ x ∈ l, a ≤ x.at_ ∧ x.at_ + x.len ≤ b) → a ≤ b → sumL l ≤ b - a ∧ (l.length : Int) ≤ b - a
  | [], a, b, _, _, hab => by simp [sumL]; omega
  | x :: l, a, b, h, hb, _ => by
    have hx := hb x (by simp)
    have ho := h.1 x (by simp)
    unfold Ext.One at ho
    have hp := (List.pairwise_cons.1 h.2).1
    have := VL_sum (a := x.at_ + x.len) (b := b) h.tail (fun y hy => ⟨hp y hy, (hb y (by simp [hy])).2⟩) hx.2
    simp only [sumL, List.length_cons]; omega
theorem VL.fit {l : List Ext} (h : VL l) : fitL l := by
  have := VL_sum (a := 0) (b := 65536) h (fun x hx => by have := h.1 x hx; unfold Ext.One at this; omega) (by omega)
  exact ⟨by omega, by omega, fun x hx => by have := h.1 x hx; unfold Ext.One at this; omega⟩

end Go.Proofs.YtbfdnfkflnajlaaGreat
