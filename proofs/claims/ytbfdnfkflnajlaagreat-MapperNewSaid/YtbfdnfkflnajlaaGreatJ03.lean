/-
  Plain: families of volumes that share slots. No program in sight. Plain: numbers in groups of seven bits, byte strings. No program in sight.
-/
import Derived.Test.YtbfdnfkflnajlaaGreatJ02
set_option linter.unusedVariables false
set_option linter.unusedSimpArgs false
/-! Plain: families of volumes that share slots. No program in sight. -/
namespace Go.Proofs.YtbfdnfkflnajlaaGreat
open Ext hiding One

/-! ### how often a list lists a slot, behind a change -/
theorem occ1_join {a b c : Int} (h1 : a ≤ b) (h2 : b ≤ c) (i : Nat) : occ1 a b i + occ1 b c i = occ1 a c i := by
  unfold occ1; split <;> split <;> split <;> omega
theorem occL_push (C : List Ext) (x : Ext) (i : Nat) (hC : ∀ z ∈ C, 1 ≤ z.len) (hx : 1 ≤ x.len) : occL (pushL C x) i = occL C i + occL [x] i := by
  rcases List.eq_nil_or_concat C with rfl | ⟨A, z, rfl⟩
  · simp [pushL_nil, occL]
  · rw [List.concat_eq_append] at *
    rw [pushL_snoc]
    have hz := hC z (by simp)
    split
    · rename_i hf
      rw [fol_iff] at hf
      rw [occL_append, occL_append]
      simp only [occL]
      rw [← hf.2, show z.slot + (z.len + x.len) = z.slot + z.len + x.len by omega]
      have := occ1_join (a := z.slot) (b := z.slot + z.len) (c := z.slot + z.len + x.len) (by omega) (by omega) i
      omega
    · rw [occL_append, occL_append]; simp only [occL]; omega
theorem push_len (C : List Ext) (x : Ext) (hC : ∀ z ∈ C, 1 ≤ z.len) (hx : 1 ≤ x.len) : ∀ z ∈ pushL C x, 1 ≤ z.len := by
  rcases List.eq_nil_or_concat C with rfl | ⟨A, z, rfl⟩
  · intro y hy; simp [pushL_nil] at hy; subst hy; exact hx
  · rw [List.concat_eq_append] at *
    rw [pushL_snoc]
    have hz := hC z (by simp)
    intro y hy
    split at hy
    · rcases List.mem_append.1 hy with hy | hy
      · exact hC y (by simp [hy])
      · rw [List.mem_singleton.1 hy]; simp only; omega
    · rcases List.mem_append.1 hy with hy | hy
      · exact hC y (by simp [hy])
      · simp only [List.mem_cons, List.not_mem_nil, or_false] at hy
        rcases hy with rfl | rfl
        · exact hz
        · exact hx
theorem occL_fold (l : List Ext) (i : Nat) : ∀ C : List Ext, (∀ z ∈ C, 1 ≤ z.len) → (∀ z ∈ l, 1 ≤ z.len) → occL (l.foldl pushL C) i = occL C i + occL l i := by
  induction l with
  | nil => intro C _ _; simp [occL]
  | cons x l ih =>
    intro C hC hl
    rw [List.foldl_cons, ih _ (push_len C x hC (hl x (by simp))) (fun z hz => hl z (by simp [hz])), occL_push C x i hC (hl x (by simp))]
    simp only [occL]; omega
theorem occL_join (l : List Ext) (i : Nat) (h : ∀ z ∈ l, 1 ≤ z.len) : occL (joinL l) i = occL l i := by
  unfold joinL
  rw [occL_fold l i [] (by simp) h]
  simp [occL]
theorem parts_len {l : List Ext} {a b : Int} : ∀ z ∈ partsL l a b, 1 ≤ z.len := fun z hz => (parts_range hz).2.2
theorem occL_parts3 {l : List Ext} (h : ∀ x ∈ l, x.One) {a b : Int} (h0 : 0 ≤ a) (h1 : a ≤ b) (h2 : b ≤ 65536) (i : Nat) :
    occL (partsL l 0 a) i + occL (partsL l a b) i + occL (partsL l b 65536) i = occL l i := by
  induction l with
  | nil => rfl
  | cons x l ih =>
    have hx := h x (by simp)
    have ih := ih (fun y hy => h y (by simp [hy]))
    unfold Ext.One at hx
    rw [parts_cons, parts_cons, parts_cons, occL_append, occL_append, occL_append]
    have hp : ∀ c d : Int, occL (partE x c d).toList i = if max x.at_ c < min (x.at_ + x.len) d then occ1 (x.slot + max x.at_ c - x.at_) (x.slot + min (x.at_ + x.len) d - x.at_) i else 0 := by
      intro c d
      unfold partE
      split
      · simp only [Option.toList_some, occL, Int.add_zero]
        congr 1
        omega
      · simp [occL]
    rw [hp, hp, hp]
    have key : (if max x.at_ 0 < min (x.at_ + x.len) a then occ1 (x.slot + max x.at_ 0 - x.at_) (x.slot + min (x.at_ + x.len) a - x.at_) i else 0) +
        (if max x.at_ a < min (x.at_ + x.len) b then occ1 (x.slot + max x.at_ a - x.at_) (x.slot + min (x.at_ + x.len) b - x.at_) i else 0) +
        (if max x.at_ b < min (x.at_ + x.len) 65536 then occ1 (x.slot + max x.at_ b - x.at_) (x.slot + min (x.at_ + x.len) 65536 - x.at_) i else 0) = occ1 x.slot (x.slot + x.len) i := by
      unfold occ1
      repeat' split
      all_goals omega
    simp only [occL]
    omega
/-- .. behind 'Put'. -/
theorem occL_put {l : List Ext} {x : Ext} (h : NF l) (hx : x.One) (i : Nat) : occL (putL l x) i + occL (inL l x.at_ x.len) i = occL l i + occL [x] i := by
  have h1 : 1 ≤ x.len := hx.2.2.1
  have e := occL_parts3 h.1 (a := x.at_) (b := x.at_ + x.len) hx.1 (by omega) hx.2.2.2.1 i
  unfold putL inL
  rw [occL_join, occL_join _ _ parts_len, occL_append, occL_append]
  · omega
  · intro z hz
    rcases List.mem_append.1 hz with hz | hz
    · rcases List.mem_append.1 hz with hz | hz
      · exact parts_len z hz
      · rw [List.mem_singleton.1 hz]; exact h1
    · exact parts_len z hz
/-- .. behind 'Cut'. -/
theorem occL_cut {l : List Ext} {a n : Int} (h : NF l) (h0 : 0 ≤ a) (h1 : 0 ≤ n) (h2 : a + n ≤ 65536) (i : Nat) : occL (cutL l a n) i + occL (inL l a n) i = occL l i := by
  have e := occL_parts3 h.1 (a := a) (b := a + n) h0 (by omega) h2 i
  unfold cutL inL
  rw [occL_join, occL_join _ _ parts_len, occL_append]
  · omega
  · intro z hz
    rcases List.mem_append.1 hz with hz | hz
    · exact parts_len z hz
    · exact parts_len z hz
theorem cutL_NF {l : List Ext} (h : NF l) {a n : Int} (h0 : 0 ≤ a) (h1 : 0 ≤ n) (h2 : a + n ≤ 65536) : NF (cutL l a n) := by
  rcases Int.lt_or_le 0 n with hn | hn
  · unfold cutL
    rw [joinL_NF]
    all_goals exact append_NF (parts_NF h 0 a) (parts_NF h (a + n) 65536) (fun x hx y hy => by have := parts_range hx; have := parts_range hy; omega)
  · obtain rfl : n = 0 := by omega
    unfold cutL
    rw [Int.add_zero, parts_split h]
    exact h
theorem inL_NF {l : List Ext} (h : NF l) (a n : Int) : NF (inL l a n) := by rw [inL_eq h]; exact parts_NF h _ _
theorem inL_range {l : List Ext} (h : NF l) {a n : Int} : ∀ x ∈ inL l a n, a ≤ x.at_ ∧ x.at_ + x.len ≤ a + n := fun x hx => by
  rw [inL_eq h] at hx
  have := parts_range hx
  omega
/-- a list lies in the first n blocks. -/
def below (n : Int) (l : List Ext) : Prop := ∀ x ∈ l, x.at_ + x.len ≤ n
theorem below_push {n : Int} {C : List Ext} {x : Ext} (hC : below n C) (hx : x.at_ + x.len ≤ n) : below n (pushL C x) := by
  rcases List.eq_nil_or_concat C with rfl | ⟨A, z, rfl⟩
  · intro y hy; simp [pushL_nil] at hy; subst hy; exact hx
  · rw [List.concat_eq_append] at *
    rw [pushL_snoc]
    intro y hy
    split at hy
    · rename_i hf
      rw [fol_iff] at hf
      rcases List.mem_append.1 hy with hy | hy
      · exact hC y (by simp [hy])
      · rw [List.mem_singleton.1 hy]; simp only; omega
    · rcases List.mem_append.1 hy with hy | hy
      · exact hC y (by simp [hy])
      · simp only [List.mem_cons, List.not_mem_nil, or_false] at hy
        rcases hy with rfl | rfl
        · exact hC _ (by simp)
        · exact hx
theorem below_fold {n : Int} (l : List Ext) : ∀ C : List Ext, below n C → below n l → below n (l.foldl pushL C) := by
  induction l with
  | nil => intro C h _; exact h
  | cons x l ih => intro C hC hl; exact ih _ (below_push hC (hl x (by simp))) (fun y hy => hl y (by simp [hy]))
theorem below_join {n : Int} {l : List Ext} (h : below n l) : below n (joinL l) := below_fold l [] (by intro x hx; cases hx) h
theorem below_parts {n : Int} {l : List Ext} (h : below n l) (a b : Int) : below n (partsL l a b) := by
  intro y hy
  obtain ⟨x, hx, hp⟩ := List.mem_filterMap.1 hy
  have := partE_some hp
  have := h x hx
  omega
theorem below_app {n : Int} {a b : List Ext} (ha : below n a) (hb : below n b) : below n (a ++ b) := fun x hx => (List.mem_append.1 hx).elim (ha x) (hb x)
theorem below_put {n : Int} {l : List Ext} {x : Ext} (h : below n l) (hx : x.at_ + x.len ≤ n) : below n (putL l x) :=
  below_join (below_app (below_app (below_parts h _ _) (fun y hy => by rw [List.mem_singleton.1 hy]; exact hx)) (below_parts h _ _))
theorem below_cut {n : Int} {l : List Ext} (h : below n l) (a k : Int) : below n (cutL l a k) := below_join (below_app (below_parts h _ _) (below_parts h _ _))
/-- where a list's slots lie, by how often it lists them. -/
theorem inL1_of_occ {n : Nat} {l : List Ext} (h : ∀ x ∈ l, 0 ≤ x.slot ∧ 1 ≤ x.len) (ho : ∀ i, n ≤ i → occL l i = 0) : inL1 n l := by
  intro x hx
  have h1 := h x hx
  refine ⟨h1.1, h1.2, ?_⟩
  refine Int.not_lt.1 fun hlt => ?_
  have := occL_mem hx (x.slot + x.len - 1).toNat
  rw [ho _ (by omega)] at this
  rw [occ1_iff.2 (by omega)] at this
  omega
theorem occ_of_inL1 {n : Nat} {l : List Ext} (h : inL1 n l) (i : Nat) (hi : n ≤ i) : occL l i = 0 := occL_far (fun x hx => by have := h x hx; omega)

/-! ### families -/
structure Vol where
  name : List UInt8
  n : Int
  res : Int
  l : List Ext
deriving Inhabited
structure Fam where
  slots : Nat
  vols : List Vol
/-- the count of a slot. -/
def cntVs : List Vol → Nat → Int
  | [], _ => 0
  | v :: r, i => occL v.l i + cntVs r i
def Fam.cnt (f : Fam) : Nat → Int := cntVs f.vols
/-- the counts of all slots. -/
def Fam.cs (f : Fam) : List Int := (List.range f.slots).map f.cnt
theorem Fam.cs_length (f : Fam) : f.cs.length = f.slots := by simp [Fam.cs]
theorem Fam.cs_get {f : Fam} {i : Nat} (h : i < f.slots) : f.cs[i]? = some (f.cnt i) := by simp [Fam.cs, h]
/-- is a name valid? -/
def nameB (s : List UInt8) : Bool := decide (1 ≤ s.length) && decide (s.length ≤ 16) && (match s with | [] => false | c :: r => (decide (97 ≤ c ∧ c ≤ 122)) && r.all fun c => decide (97 ≤ c ∧ c ≤ 122) || decide (48 ≤ c ∧ c ≤ 57))
def Vol.WF (N : Nat) (v : Vol) : Prop := nameB v.name = true ∧ 1 ≤ v.n ∧ v.n ≤ 65536 ∧ 0 ≤ v.res ∧ v.res ≤ v.n ∧ NF v.l ∧ below v.n v.l ∧ inL1 N v.l
abbrev ltV (a b : Vol) : Prop := a.name < b.name
structure Fam.WF (f : Fam) : Prop where
  slots : f.slots ≤ 65536
  few : f.vols.length ≤ 32
  sorted : f.vols.Pairwise ltV
  vols : ∀ v ∈ f.vols, v.WF f.slots

theorem cntVs_nonneg (vs : List Vol) (i : Nat) : 0 ≤ cntVs vs i := by
  induction vs with
  | nil => exact Int.le_refl _
  | cons v r ih => have := (occL_bound v.l i).1; simp only [cntVs]; omega
theorem cntVs_mem {vs : List Vol} {v : Vol} (h : v ∈ vs) (i : Nat) : occL v.l i ≤ cntVs vs i := by
  induction vs with
  | nil => cases h
  | cons w r ih =>
    have := (occL_bound w.l i).1
    have := cntVs_nonneg r i
    rcases List.mem_cons.1 h with rfl | h
    · simp only [cntVs]; omega
    · have := ih h; simp only [cntVs]; omega
theorem cntVs_app (a b : List Vol) (i : Nat) : cntVs (a ++ b) i = cntVs a i + cntVs b i := by
  induction a with
  | nil => simp [cntVs]
  | cons v a ih => simp only [List.cons_append, cntVs, ih]; omega
theorem cntVs_far {N : Nat} {vs : List Vol} (h : ∀ v ∈ vs, v.WF N) (i : Nat) (hi : N ≤ i) : cntVs vs i = 0 := by
  induction vs with
  | nil => rfl
  | cons v r ih => rw [cntVs, ih (fun w hw => h w (by simp [hw])), occ_of_inL1 (h v (by simp)).2.2.2.2.2.2.2 i hi]; rfl

/-! ### volumes by their names -/
def getV (vs : List Vol) (nm : List UInt8) : Option Vol := vs.find? fun v => decide (v.name = nm)
def insV : List Vol → Vol → List Vol
  | [], v => [v]
  | w :: r, v => if w.name < v.name then w :: insV r v else if w.name = v.name then v :: r else v :: w :: r
def delV (vs : List Vol) (nm : List UInt8) : List Vol := vs.filter fun v => !decide (v.name = nm)
theorem getV_some {vs : List Vol} {nm : List UInt8} {v : Vol} (h : getV vs nm = some v) : v ∈ vs ∧ v.name = nm :=
  ⟨List.mem_of_find?_eq_some h, by simpa using List.find?_some h⟩
theorem getV_none {vs : List Vol} {nm : List UInt8} : getV vs nm = none ↔ ∀ v ∈ vs, v.name ≠ nm := by simp [getV]
theorem lt_of_not {a b : List UInt8} (h : ¬ a < b) (hne : a ≠ b) : b < a := Std.lt_of_le_of_ne h (Ne.symm hne)
theorem getV_mem {vs : List Vol} (hs : vs.Pairwise ltV) {v : Vol} (h : v ∈ vs) : getV vs v.name = some v := by
  induction vs with
  | nil => cases h
  | cons w r ih =>
    obtain ⟨h1, h2⟩ := List.pairwise_cons.1 hs
    rcases List.mem_cons.1 h with rfl | h
    · simp [getV]
    · have hlt : w.name < v.name := h1 v h
      have hne : ¬ w.name = v.name := fun e => List.lt_irrefl v.name (e ▸ hlt)
      show (w :: r).find? _ = _
      rw [List.find?_cons_of_neg (by simpa using hne)]
      exact ih h2 h
theorem mem_insV {vs : List Vol} {v u : Vol} (h : u ∈ insV vs v) : u = v ∨ u ∈ vs := by
  induction vs with
  | nil => simp [insV] at h; exact .inl h
  | cons w r ih =>
    unfold insV at h
    split at h
    · rcases List.mem_cons.1 h with rfl | h
      · exact .inr (by simp)
      · exact (ih h).imp id (fun h => by simp [h])
    · split at h
      · rcases List.mem_cons.1 h with rfl | h
        · exact .inl rfl
        · exact .inr (by simp [h])
      · rcases List.mem_cons.1 h with rfl | h
        · exact .inl rfl
        · exact .inr h
theorem insV_sorted {vs : List Vol} (hs : vs.Pairwise ltV) (v : Vol) : (insV vs v).Pairwise ltV := by
  induction vs with
  | nil => simp [insV]
  | cons w r ih =>
    obtain ⟨h1, h2⟩ := List.pairwise_cons.1 hs
    unfold insV
    split
    · rename_i hlt
      refine List.pairwise_cons.2 ⟨fun u hu => ?_, ih h2⟩
      rcases mem_insV hu with rfl | hu
      · exact hlt
      · exact h1 u hu
    · rename_i hnl
      split
      · rename_i he
        exact List.pairwise_cons.2 ⟨fun u hu => by have := h1 u hu; unfold ltV at *; rw [← he]; exact this, h2⟩
      · rename_i hne
        have hv : v.name < w.name := lt_of_not hnl hne
        refine List.pairwise_cons.2 ⟨fun u hu => ?_, hs⟩
        rcases List.mem_cons.1 hu with rfl | hu
        · exact hv
        · exact List.lt_trans hv (h1 u hu)
theorem getV_insV {vs : List Vol} (hs : vs.Pairwise ltV) (v : Vol) (nm : List UInt8) : getV (insV vs v) nm = if v.name = nm then some v else getV vs nm := by
  induction vs with
  | nil => simp only [insV, getV, List.find?_cons, List.find?_nil]; split <;> simp_all
  | cons w r ih =>
    obtain ⟨h1, h2⟩ := List.pairwise_cons.1 hs
    unfold insV
    split
    · rename_i hlt
      have := ih h2
      unfold getV at *
      rw [List.find?_cons, this]
      by_cases hw : w.name = nm
      · subst hw
        have hne : ¬ v.name = w.name := fun e => List.lt_irrefl w.name (e ▸ hlt)
        simp [hne]
      · simp [hw]
    · split
      · rename_i he
        unfold getV
        rw [List.find?_cons, List.find?_cons]
        by_cases hv : v.name = nm
        · simp [hv]
        · simp [hv, he]
      · unfold getV
        rw [List.find?_cons]
        by_cases hv : v.name = nm
        · simp [hv]
        · simp [hv]
/-- a change of one volume: what stands about it stays. -/
theorem split_get {vs : List Vol} {nm : List UInt8} {v : Vol} (h : getV vs nm = some v) : ∃ a b, vs = a ++ v :: b ∧ v.name = nm ∧ ∀ w ∈ a, w.name ≠ nm := by
  obtain ⟨h1, a, b, rfl, h2⟩ := List.find?_eq_some_iff_append.1 h
  exact ⟨a, b, rfl, by simpa using h1, fun w hw => by simpa using h2 w hw⟩
theorem insV_mid : ∀ {a b : List Vol} {u v : Vol}, (a ++ u :: b).Pairwise ltV → u.name = v.name → insV (a ++ u :: b) v = a ++ v :: b
  | [], b, u, v, _, he => by
    show (if u.name < v.name then _ else if u.name = v.name then _ else _) = _
    rw [if_neg (by rw [he]; exact List.lt_irrefl _), if_pos he]; rfl
  | w :: a, b, u, v, hs, he => by
    obtain ⟨h1, h2⟩ := List.pairwise_cons.1 (show List.Pairwise ltV (w :: (a ++ u :: b)) from hs)
    have hlt : w.name < v.name := by rw [← he]; exact h1 u (by simp)
    show (if w.name < v.name then _ else _) = _
    rw [if_pos hlt]
    exact congrArg (w :: ·) (insV_mid h2 he)
theorem delV_mid {a b : List Vol} {u : Vol} (hs : (a ++ u :: b).Pairwise ltV) : delV (a ++ u :: b) u.name = a ++ b := by
  obtain ⟨h1, h2, h3⟩ := List.pairwise_append.1 hs
  have ha : ∀ w ∈ a, ¬ w.name = u.name := fun w hw e => by have := h3 w hw u (by simp); unfold ltV at this; rw [e] at this; exact List.lt_irrefl _ this
  have hb : ∀ w ∈ b, ¬ w.name = u.name := fun w hw e => by have := (List.pairwise_cons.1 h2).1 w hw; unfold ltV at this; rw [e] at this; exact List.lt_irrefl _ this
  unfold delV
  rw [List.filter_append, List.filter_cons]
  simp only [decide_true, Bool.not_true, Bool.false_eq_true, if_false]
  rw [List.filter_eq_self.2 (fun w hw => by simpa using ha w hw), List.filter_eq_self.2 (fun w hw => by simpa using hb w hw)]
theorem insV_new {vs : List Vol} {v : Vol} (h : getV vs v.name = none) : (insV vs v).length = vs.length + 1 ∧ ∀ i, cntVs (insV vs v) i = cntVs vs i + occL v.l i := by
  induction vs with
  | nil => exact ⟨rfl, fun i => by simp [insV, cntVs]⟩
  | cons w r ih =>
    have hn := getV_none.1 h
    obtain ⟨i1, i2⟩ := ih (getV_none.2 fun u hu => hn u (by simp [hu]))
    unfold insV
    split
    · exact ⟨by simp [i1], fun i => by simp only [cntVs, i2]; omega⟩
    · rw [if_neg (hn w (by simp))]
      exact ⟨by simp, fun i => by simp only [cntVs]; omega⟩

/-! ### the operations: the error's number, or the family behind the change -/
def Fam.put (f : Fam) (v : Vol) : Fam := ⟨f.slots, insV f.vols v⟩
def Fam.vacant (f : Fam) (nm : List UInt8) : Int := if (getV f.vols nm).isSome then 10 else if 32 ≤ f.vols.length then 7 else 0
def Fam.create (f : Fam) (nm : List UInt8) (n r : Int) : Except Int Fam :=
  if nameB nm = true ∧ 1 ≤ n ∧ n ≤ 65536 ∧ 0 ≤ r ∧ r ≤ n then (if f.vacant nm = 0 then .ok (f.put ⟨nm, n, r, []⟩) else .error (f.vacant nm)) else .error 1
def Fam.clone (f : Fam) (nm other : List UInt8) : Except Int Fam :=
  match getV f.vols nm with
  | none => .error 9
  | some v => if nameB other = true then (if f.vacant other = 0 then .ok (f.put ⟨other, v.n, 0, v.l⟩) else .error (f.vacant other)) else .error 1
def Fam.delete (f : Fam) (nm : List UInt8) : Except Int Fam :=
  match getV f.vols nm with
  | none => .error 9
  | some _ => .ok ⟨f.slots, delV f.vols nm⟩
def Fam.assign (f : Fam) (nm : List UInt8) (x : Ext) : Except Int Fam :=
  match getV f.vols nm with
  | none => .error 9
  | some v => if 0 ≤ x.at_ ∧ 1 ≤ x.len ∧ x.at_ + x.len ≤ v.n ∧ 0 ≤ x.slot ∧ x.slot + x.len ≤ f.slots then .ok (f.put ⟨v.name, v.n, v.res, putL v.l x⟩) else .error 2
def Fam.unmap (f : Fam) (nm : List UInt8) (a n : Int) : Except Int Fam :=
  match getV f.vols nm with
  | none => .error 9
  | some v => if 0 ≤ a ∧ 0 ≤ n ∧ a + n ≤ v.n then .ok (f.put ⟨v.name, v.n, v.res, cutL v.l a n⟩) else .error 2

theorem insV_length {vs : List Vol} (hs : vs.Pairwise ltV) (v : Vol) : (insV vs v).length = if (getV vs v.name).isSome then vs.length else vs.length + 1 := by
  cases h : getV vs v.name with
  | none => simpa using (insV_new h).1
  | some u =>
    obtain ⟨a, b, rfl, e, -⟩ := split_get h
    rw [insV_mid hs e]
    simp
theorem Fam.WF.put {f : Fam} (h : f.WF) {v : Vol} (hv : v.WF f.slots) (hr : (getV f.vols v.name).isSome = true ∨ f.vols.length < 32) : (f.put v).WF := by
  refine ⟨h.slots, ?_, insV_sorted h.sorted v, fun u hu => ?_⟩
  · show (insV f.vols v).length ≤ 32
    have := h.few
    rw [insV_length h.sorted]
    split
    · exact this
    · rename_i hn
      rcases hr with hr | hr
      · exact absurd hr hn
      · omega
  · rcases mem_insV hu with rfl | hu
    · exact hv
    · exact h.vols u hu
theorem vacant_ok {f : Fam} {nm : List UInt8} (h : f.vacant nm = 0) : getV f.vols nm = none ∧ f.vols.length < 32 := by
  unfold Fam.vacant at h
  split at h
  · cases h
  · rename_i hn
    split at h
    · cases h
    · exact ⟨by simpa using hn, by omega⟩
theorem create_WF {f g : Fam} {nm : List UInt8} {n r : Int} (h : f.WF) (e : f.create nm n r = .ok g) : g.WF := by
  unfold Fam.create at e
  split at e
  · rename_i hc
    split at e
    · rename_i hv
      injection e with e; subst e
      obtain ⟨h1, h2⟩ := vacant_ok hv
      refine h.put ⟨hc.1, hc.2.1, hc.2.2.1, hc.2.2.2.1, hc.2.2.2.2, NF.nil, ?_, inL1.nil _⟩ (.inr h2)
      intro x hx; cases hx
    · cases e
  · cases e
theorem clone_WF {f g : Fam} {nm other : List UInt8} (h : f.WF) (e : f.clone nm other = .ok g) : g.WF := by
  unfold Fam.clone at e
  split at e
  · cases e
  · rename_i v hg
    obtain ⟨a1, a2, a3, a4, a5, a6, a7, a8⟩ := h.vols v (getV_some hg).1
    split at e
    · rename_i hn
      split at e
      · rename_i hv
        injection e with e; subst e
        obtain ⟨h1, h2⟩ := vacant_ok hv
        exact h.put ⟨hn, a2, a3, Int.le_refl _, by show (0 : Int) ≤ v.n; omega, a6, a7, a8⟩ (.inr h2)
      · cases e
    · cases e
theorem delete_WF {f g : Fam} {nm : List UInt8} (h : f.WF) (e : f.delete nm = .ok g) : g.WF := by
  unfold Fam.delete at e
  split at e
  · cases e
  · injection e with e; subst e
    refine ⟨h.slots, ?_, ?_, fun v hv => h.vols v (List.mem_filter.1 hv).1⟩
    · have := h.few
      have := List.length_filter_le (fun v : Vol => !decide (v.name = nm)) f.vols
      unfold delV
      show (List.filter _ _).length ≤ 32
      omega
    · exact h.sorted.filter _
/-- a volume's list is laid in anew. -/
theorem cnt_put {f : Fam} (h : f.WF) {v : Vol} (hg : getV f.vols v.name = some v) (m : List Ext) (n r : Int) (i : Nat) : (f.put ⟨v.name, n, r, m⟩).cnt i = f.cnt i - occL v.l i + occL m i := by
  obtain ⟨a, b, e, -, -⟩ := split_get hg
  have hs := h.sorted
  unfold Fam.put Fam.cnt
  rw [e] at hs ⊢
  simp only
  rw [insV_mid (v := ⟨v.name, n, r, m⟩) hs rfl, cntVs_app, cntVs_app]
  simp only [cntVs]
  omega
theorem cnt_delete {f : Fam} (h : f.WF) {v : Vol} (hg : getV f.vols v.name = some v) (i : Nat) : cntVs (delV f.vols v.name) i = f.cnt i - occL v.l i := by
  obtain ⟨a, b, e, -, -⟩ := split_get hg
  have hs := h.sorted
  unfold Fam.cnt
  rw [e] at hs ⊢
  rw [delV_mid hs, cntVs_app, cntVs_app]
  simp only [cntVs]
  omega
theorem getV_self {f : Fam} {nm : List UInt8} {v : Vol} (hg : getV f.vols nm = some v) : getV f.vols v.name = some v := by rw [(getV_some hg).2]; exact hg
theorem putL_in {N : Nat} {l : List Ext} {x : Ext} (h : NF l) (hl : inL1 N l) (hx : x.One) (hxs : x.slot + x.len ≤ N) : inL1 N (putL l x) := by
  refine inL1_of_occ (fun y hy => ⟨((putL_NF h hx).1 y hy).2.1, ((putL_NF h hx).1 y hy).2.2.1⟩) (fun i hi => ?_)
  have e := occL_put h hx i
  have := (occL_bound (putL l x) i).1
  have := (occL_bound (inL l x.at_ x.len) i).1
  rw [occ_of_inL1 hl i hi, occ_of_inL1 (inL1.one ⟨hx.2.1, hx.2.2.1, hxs⟩) i hi] at e
  omega
theorem cutL_in {N : Nat} {l : List Ext} {a n : Int} (h : NF l) (hl : inL1 N l) (h0 : 0 ≤ a) (h1 : 0 ≤ n) (h2 : a + n ≤ 65536) : inL1 N (cutL l a n) := by
  have hN := cutL_NF h h0 h1 h2
  refine inL1_of_occ (fun y hy => ⟨(hN.1 y hy).2.1, (hN.1 y hy).2.2.1⟩) (fun i hi => ?_)
  have e := occL_cut h h0 h1 h2 i
  have := (occL_bound (cutL l a n) i).1
  have := (occL_bound (inL l a n) i).1
  rw [occ_of_inL1 hl i hi] at e
  omega
theorem inL_in {N : Nat} {l : List Ext} {a n : Int} (h : NF l) (hl : inL1 N l) (h0 : 0 ≤ a) (h1 : 0 ≤ n) (h2 : a + n ≤ 65536) : inL1 N (inL l a n) := by
  have hN := inL_NF h a n
  refine inL1_of_occ (fun y hy => ⟨(hN.1 y hy).2.1, (hN.1 y hy).2.2.1⟩) (fun i hi => ?_)
  have e := occL_cut h h0 h1 h2 i
  have := (occL_bound (cutL l a n) i).1
  have := (occL_bound (inL l a n) i).1
  rw [occ_of_inL1 hl i hi] at e
  omega
theorem assign_one {f : Fam} (h : f.WF) {v : Vol} (hv : v ∈ f.vols) {x : Ext} (hc : 0 ≤ x.at_ ∧ 1 ≤ x.len ∧ x.at_ + x.len ≤ v.n ∧ 0 ≤ x.slot ∧ x.slot + x.len ≤ f.slots) : x.One := by
  have h1 := h.slots
  have h2 := (h.vols v hv).2.2.1
  unfold Ext.One
  omega
theorem assign_WF {f g : Fam} {nm : List UInt8} {x : Ext} (h : f.WF) (e : f.assign nm x = .ok g) : g.WF := by
  unfold Fam.assign at e
  split at e
  · cases e
  · rename_i v hg
    split at e
    · rename_i hc
      injection e with e; subst e
      have hm := (getV_some hg).1
      obtain ⟨a1, a2, a3, a4, a5, a6, a7, a8⟩ := h.vols v hm
      have ho := assign_one h hm hc
      exact h.put ⟨a1, a2, a3, a4, a5, putL_NF a6 ho, below_put a7 hc.2.2.1, putL_in a6 a8 ho hc.2.2.2.2⟩ (.inl (by rw [getV_self hg]; rfl))
    · cases e
theorem unmap_WF {f g : Fam} {nm : List UInt8} {a n : Int} (h : f.WF) (e : f.unmap nm a n = .ok g) : g.WF := by
  unfold Fam.unmap at e
  split at e
  · cases e
  · rename_i v hg
    split at e
    · rename_i hc
      injection e with e; subst e
      have hm := (getV_some hg).1
      obtain ⟨a1, a2, a3, a4, a5, a6, a7, a8⟩ := h.vols v hm
      exact h.put ⟨a1, a2, a3, a4, a5, cutL_NF a6 hc.1 hc.2.1 (by omega), below_cut a7 _ _, cutL_in a6 a8 hc.1 hc.2.1 (by omega)⟩ (.inl (by rw [getV_self hg]; rfl))
    · cases e
/-- the counts behind a change, as refcount reckons them. -/
theorem cs_chg (f g : Fam) (hs : g.slots = f.slots) {l : List Ext} {d : Int} (h : ∀ i, i < f.slots → g.cnt i = f.cnt i + d * occL l i) : chg f.cs l d = g.cs := by
  apply List.ext_getElem?
  intro i
  unfold chg
  rw [addAt_get]
  by_cases hi : i < f.slots
  · rw [Fam.cs_get hi, Fam.cs_get (by omega), h i hi]; rfl
  · rw [List.getElem?_eq_none (by rw [Fam.cs_length]; omega), List.getElem?_eq_none (by rw [Fam.cs_length]; omega)]; rfl
theorem cs_create {f g : Fam} {nm : List UInt8} {n r : Int} (e : f.create nm n r = .ok g) : g.cs = f.cs := by
  unfold Fam.create at e
  split at e
  · split at e
    · rename_i hv
      injection e with e; subst e
      have h1 := (vacant_ok hv).1
      have h2 := (insV_new (v := ⟨nm, n, r, []⟩) h1).2
      unfold Fam.cs
      refine congrArg (fun g => List.map g _) (funext fun i => ?_)
      show cntVs (insV _ _) i = cntVs _ i
      rw [h2]; simp [occL]
    · cases e
  · cases e
theorem cs_clone {f g : Fam} {nm other : List UInt8} {v : Vol} (hg : getV f.vols nm = some v) (e : f.clone nm other = .ok g) : chg f.cs v.l 1 = g.cs := by
  unfold Fam.clone at e
  rw [hg] at e
  simp only at e
  split at e
  · split at e
    · rename_i hv
      injection e with e; subst e
      apply cs_chg f _ (by rfl); intro i _
      rw [show (f.put ⟨other, v.n, 0, v.l⟩).cnt i = _ from (insV_new (v := ⟨other, v.n, 0, v.l⟩) (vacant_ok hv).1).2 i]
      show cntVs f.vols i + occL v.l i = cntVs f.vols i + 1 * occL v.l i
      omega
    · cases e
  · cases e
theorem cs_delete {f g : Fam} (h : f.WF) {nm : List UInt8} {v : Vol} (hg : getV f.vols nm = some v) (e : f.delete nm = .ok g) : chg f.cs v.l (-1) = g.cs := by
  unfold Fam.delete at e
  rw [hg] at e
  simp only at e
  injection e with e; subst e
  apply cs_chg f _ (by rfl); intro i _
  rw [← (getV_some hg).2]
  show cntVs (delV f.vols v.name) i = _
  rw [cnt_delete h (getV_self hg)]
  omega
theorem cs_assign {f g : Fam} (h : f.WF) {nm : List UInt8} {v : Vol} {x : Ext} (hg : getV f.vols nm = some v) (e : f.assign nm x = .ok g) : chg (chg f.cs [x] 1) (inL v.l x.at_ x.len) (-1) = g.cs := by
  unfold Fam.assign at e
  rw [hg] at e
  simp only at e
  split at e
  · rename_i hc
    injection e with e; subst e
    have hm := (getV_some hg).1
    have ho := assign_one h hm hc
    apply List.ext_getElem?
    intro i
    unfold chg
    rw [addAt_get, addAt_get]
    by_cases hi : i < f.slots
    · rw [Fam.cs_get hi, Fam.cs_get (show i < (f.put _).slots from hi), cnt_put h (getV_self hg)]
      have := occL_put (h.vols v hm).2.2.2.2.2.1 ho i
      simp only [Option.map_some, Option.some.injEq]
      omega
    · rw [List.getElem?_eq_none (by rw [Fam.cs_length]; omega), List.getElem?_eq_none (by rw [Fam.cs_length]; exact Nat.le_of_not_lt hi)]; rfl
  · cases e
theorem cs_unmap {f g : Fam} (h : f.WF) {nm : List UInt8} {v : Vol} {a n : Int} (hg : getV f.vols nm = some v) (e : f.unmap nm a n = .ok g) : chg f.cs (inL v.l a n) (-1) = g.cs := by
  unfold Fam.unmap at e
  rw [hg] at e
  simp only at e
  split at e
  · rename_i hc
    injection e with e; subst e
    have hm := (getV_some hg).1
    have h9 := (h.vols v hm).2.2.1
    apply cs_chg f _ (by rfl); intro i _
    rw [cnt_put h (getV_self hg)]
    have := occL_cut (h.vols v hm).2.2.2.2.2.1 hc.1 hc.2.1 (by omega) i
    omega
  · cases e
/-- a count is at most the number of blocks of all volumes. -/
theorem NF.len {l : List Ext} {n : Int} (h : NF l) (hb : below n l) (hn : 0 ≤ n) : sumL l ≤ n ∧ (l.length : Int) ≤ n := by
  have := VL_sum h.vl (a := 0) (b := n) (fun x hx => ⟨(h.1 x hx).1, hb x hx⟩) hn
  omega
theorem cnt_bound {f : Fam} (h : f.WF) (i : Nat) : 0 ≤ f.cnt i ∧ f.cnt i ≤ 2097152 := by
  refine ⟨cntVs_nonneg _ _, ?_⟩
  have key : ∀ vs : List Vol, (∀ v ∈ vs, v.WF f.slots) → cntVs vs i ≤ 65536 * vs.length := by
    intro vs
    induction vs with
    | nil => intro _; simp [cntVs]
    | cons v r ih =>
      intro hv
      have h1 := ih (fun w hw => hv w (by simp [hw]))
      obtain ⟨a1, a2, a3, a4, a5, a6, a7, a8⟩ := hv v (by simp)
      have := (NF.len a6 a7 (by omega)).2
      have := (occL_bound v.l i).2
      simp only [cntVs, List.length_cons]
      omega
  have := key f.vols h.vols
  have := h.few
  show cntVs f.vols i ≤ _
  omega

/-! ### space -/
/-- how many of the listed slots are listed but once in all. -/
def Fam.exc (f : Fam) (l : List Ext) : Int := sumTo (fun s => if f.cnt s = 1 then occL l s else 0) f.slots
def Fam.claim (f : Fam) (v : Vol) : Int := max 0 (v.res - f.exc v.l)
def sumV (g : Vol → Int) : List Vol → Int
  | [] => 0
  | v :: r => g v + sumV g r
def Fam.claims (f : Fam) : Int := sumV f.claim f.vols
def Fam.free (f : Fam) : Int := sumTo (fun s => if f.cnt s = 0 then 1 else 0) f.slots
def Fam.room (f : Fam) : Int := f.free - f.claims
def Fam.need (f : Fam) (v : Vol) (a n : Int) : Int := n - f.exc (inL v.l a n)
end Go.Proofs.YtbfdnfkflnajlaaGreat

/-! Plain: numbers in groups of seven bits, byte strings. No program in sight. -/
namespace Go.Proofs.YtbfdnfkflnajlaaGreat
open Ext hiding One

/-- the encoding of a number. -/
def encU (n : Nat) : List UInt8 := if h : n < 128 then [UInt8.ofNat n] else UInt8.ofNat (n % 128 + 128) :: encU (n / 128)
termination_by n
theorem encU_low {n : Nat} (h : n < 128) : encU n = [UInt8.ofNat n] := by rw [encU, dif_pos h]
theorem encU_high {n : Nat} (h : ¬ n < 128) : encU n = UInt8.ofNat (n % 128 + 128) :: encU (n / 128) := by rw [encU, dif_neg h]
theorem encU_pos (n : Nat) : 1 ≤ (encU n).length := by
  rw [encU]; split <;> simp
theorem encU_len {k : Nat} : ∀ {n : Nat}, n < 128 ^ (k + 1) → (encU n).length ≤ k + 1 := by
  induction k with
  | zero => intro n h; rw [encU_low (by simpa using h)]; simp
  | succ k ih =>
    intro n h
    by_cases h1 : n < 128
    · rw [encU_low h1]; simp
    · rw [encU_high h1, List.length_cons]
      have : n / 128 < 128 ^ (k + 1) := by rw [Nat.div_lt_iff_lt_mul (by omega)]; rwa [Nat.pow_succ] at h
      have := ih this
      omega
theorem toNat_of {n : Nat} (h : n < 256) : (UInt8.ofNat n).toNat = n := by simp; omega
/-- reads a number: g groups are left, i were read. -/
def readG : Nat → Nat → Nat → List UInt8 → Option (Nat × List UInt8)
  | 0, _, _, _ => none
  | g + 1, i, acc, [] => none
  | g + 1, i, acc, c :: r =>
    if i = 9 ∧ 1 < c.toNat then none
    else if c.toNat < 128 then (if c.toNat = 0 ∧ 0 < i then none else some (acc + c.toNat * 2 ^ (7 * i), r))
    else readG g (i + 1) (acc + c.toNat % 128 * 2 ^ (7 * i)) r
def readU (bs : List UInt8) : Option (Nat × List UInt8) := readG 10 0 0 bs
theorem readG_enc : ∀ (k n i acc : Nat) (r : List UInt8), n < 128 ^ (k + 1) → i + k < 9 → (n = 0 → i = 0) → readG (10 - i) i acc (encU n ++ r) = some (acc + n * 2 ^ (7 * i), r) := by
  intro k
  induction k with
  | zero =>
    intro n i acc r h hi h0
    rw [encU_low (by simpa using h), show 10 - i = (9 - i) + 1 by omega]
    have hn : n < 128 := by simpa using h
    simp only [List.cons_append, List.nil_append, readG, toNat_of (show n < 256 by omega)]
    rw [if_neg (by omega), if_pos (by omega), if_neg (by omega)]
  | succ k ih =>
    intro n i acc r h hi h0
    by_cases h1 : n < 128
    · rw [encU_low h1, show 10 - i = (9 - i) + 1 by omega]
      simp only [List.cons_append, List.nil_append, readG, toNat_of (show n < 256 by omega)]
      rw [if_neg (by omega), if_pos (by omega), if_neg (by omega)]
    · rw [encU_high h1, show 10 - i = (9 - i) + 1 by omega]
      simp only [List.cons_append, readG, toNat_of (show n % 128 + 128 < 256 by omega)]
      rw [if_neg (by omega), if_neg (by omega)]
      have e : n / 128 < 128 ^ (k + 1) := by rw [Nat.div_lt_iff_lt_mul (by omega)]; rwa [Nat.pow_succ] at h
      have := ih (n / 128) (i + 1) (acc + (n % 128 + 128) % 128 * 2 ^ (7 * i)) r e (by omega) (by omega)
      rw [show 9 - i = 10 - (i + 1) by omega, this]
      congr 2
      rw [Nat.mul_add, Nat.mul_one, Nat.pow_add, Nat.add_mod_right, Nat.mod_mod, Nat.add_assoc]
      congr 1
      rw [show (2 : Nat) ^ 7 = 128 from rfl, Nat.mul_comm (2 ^ (7 * i)) 128, ← Nat.mul_assoc, ← Nat.add_mul, Nat.add_comm, Nat.div_add_mod']
theorem readU_enc {n : Nat} (h : n < 2097152) (r : List UInt8) : readU (encU n ++ r) = some (n, r) := by
  have := readG_enc 2 n 0 0 r (by simpa using h) (by omega) (fun _ => rfl)
  unfold readU
  simpa using this
theorem readG_lt : ∀ (g i acc : Nat) (bs : List UInt8) {n : Nat} {r : List UInt8}, readG g i acc bs = some (n, r) → r.length < bs.length
  | 0, _, _, _, _, _, h => by cases h
  | g + 1, _, _, [], _, _, h => by cases h
  | g + 1, i, acc, c :: bs, n, r, h => by
    unfold readG at h
    split at h
    · cases h
    · split at h
      · split at h
        · cases h
        · injection h with h; injection h with h1 h2; subst h2; simp
      · have := readG_lt g _ _ bs h
        simp; omega
/-- a byte string. -/
def encB (b : List UInt8) : List UInt8 := encU b.length ++ b
def readB (bs : List UInt8) : Option (List UInt8 × List UInt8) :=
  match readU bs with
  | none => none
  | some (n, r) => if n ≤ r.length then some (r.take n, r.drop n) else none
theorem readB_enc {b : List UInt8} (h : b.length < 2097152) (r : List UInt8) : readB (encB b ++ r) = some (b, r) := by
  unfold readB encB
  rw [List.append_assoc, readU_enc h]
  simp
/-- a number that is at most some number. -/
def readC (bs : List UInt8) : Option (Int × List UInt8) :=
  match readU bs with
  | none => none
  | some (n, r) => if n ≤ 65536 then some ((n : Int), r) else none
theorem readC_enc {n : Int} (h0 : 0 ≤ n) (h : n ≤ 65536) (r : List UInt8) : readC (encU n.toNat ++ r) = some (n, r) := by
  unfold readC
  rw [readU_enc (by omega)]
  simp only
  rw [if_pos (by omega)]
  congr 2
  omega
def encN (n : Int) : List UInt8 := encU n.toNat
theorem encN_len {n : Int} (h : n ≤ 65536) : (encN n).length ≤ 3 := encU_len (k := 2) (by simp; omega)
def encX (x : Ext) : List UInt8 := encN x.at_ ++ encN x.len ++ encN x.slot
def encXs : List Ext → List UInt8
  | [] => []
  | x :: l => encX x ++ encXs l
theorem encXs_app (a b : List Ext) : encXs (a ++ b) = encXs a ++ encXs b := by
  induction a with
  | nil => rfl
  | cons x a ih => simp only [List.cons_append, encXs, ih, List.append_assoc]
theorem encX_len {x : Ext} (h : x.One) : (encX x).length ≤ 9 := by
  unfold Ext.One at h
  unfold encX
  have := encN_len (n := x.at_) (by omega)
  have := encN_len (n := x.len) (by omega)
  have := encN_len (n := x.slot) (by omega)
  simp only [List.length_append]; omega
theorem encXs_len {l : List Ext} (h : ∀ x ∈ l, x.One) : (encXs l).length ≤ 9 * l.length := by
  induction l with
  | nil => simp [encXs]
  | cons x l ih =>
    have := encX_len (h x (by simp))
    have := ih (fun y hy => h y (by simp [hy]))
    simp only [encXs, List.length_append, List.length_cons]; omega
/-- a volume's part of the state; the state. -/
def encV (v : Vol) : List UInt8 := encB v.name ++ encN v.n ++ encN v.res ++ encN v.l.length ++ encXs v.l
def encVs : List Vol → List UInt8
  | [] => []
  | v :: r => encV v ++ encVs r
def encF (f : Fam) : List UInt8 := encN f.vols.length ++ encVs f.vols
theorem encVs_app (a b : List Vol) : encVs (a ++ b) = encVs a ++ encVs b := by
  induction a with
  | nil => rfl
  | cons x a ih => simp only [List.cons_append, encVs, ih, List.append_assoc]
theorem nameB_len {s : List UInt8} (h : nameB s = true) : 1 ≤ s.length ∧ s.length ≤ 16 := by
  unfold nameB at h
  simp only [Bool.and_eq_true, decide_eq_true_eq] at h
  exact h.1
theorem encB_len {b : List UInt8} (h : b.length ≤ 16) : (encB b).length ≤ 17 := by
  unfold encB
  rw [encU_low (by omega)]
  simp; omega
theorem encV_len {N : Nat} {v : Vol} (h : v.WF N) : (encV v).length ≤ 26 + 9 * v.l.length := by
  obtain ⟨a1, a2, a3, a4, a5, a6, a7, a8⟩ := h
  have := encB_len (nameB_len a1).2
  have := encN_len a3
  have := encN_len (n := v.res) (by omega)
  have := encN_len (n := v.l.length) (by have := NF.len a6 a7 (by omega); omega)
  have := encXs_len a6.1
  unfold encV
  simp only [List.length_append]; omega
/-- how many extents the volumes have. -/
def extN : List Vol → Nat
  | [] => 0
  | v :: r => v.l.length + extN r
theorem encF_len {f : Fam} (h : f.WF) : (encF f).length ≤ 3 + 26 * f.vols.length + 9 * extN f.vols := by
  have key : ∀ vs : List Vol, (∀ v ∈ vs, v.WF f.slots) → (encVs vs).length ≤ 26 * vs.length + 9 * extN vs := by
    intro vs
    induction vs with
    | nil => intro _; simp [encVs, extN]
    | cons v r ih =>
      intro hv
      have := ih (fun w hw => hv w (by simp [hw]))
      have := encV_len (hv v (by simp))
      simp only [encVs, extN, List.length_append, List.length_cons]; omega
  have := key f.vols h.vols
  have := encN_len (n := f.vols.length) (by have := h.few; omega)
  unfold encF
  simp only [List.length_append]; omega
end Go.Proofs.YtbfdnfkflnajlaaGreat
